/- ReconTurned, ReconThree: plain laws. -/
import Derived.Test.YtckammfgogiplaaGreatDoorK42
import Derived.Test.YtckammfgogiplaaGreatDoorK43
namespace Go.Proofs.W.Q10
open Go Go.Proofs.V Go.Proofs.W.Q9
set_option linter.unusedVariables false
set_option linter.unusedSimpArgs false
theorem come_up {r x : En} (hp : r.1 = x.1) (hc : x.2.2.2.1 ≤ r.2.2.2.1 ∧ x.2.2.2.2 ≤ r.2.2.2.2) (hv : ltC x.2.2.2 r.2.2.2 ∨ valV r = valV x) : comeP r x = (r, false) := by
  have h : (comeP r x).2 = false := come_iff.2 (by rcases hv with h | h; exact .inr (.inl h); exact .inr (.inr h))
  have h1 := come_nc hp h
  rw [if_neg (by unfold ltC; omega)] at h1
  have hj : joinC r.2.2.2 x.2.2.2 = r.2.2.2 := by
    unfold joinC
    refine Prod.ext ?_ ?_ <;> (dsimp only; omega)
  rw [hj] at h1
  refine Prod.ext ?_ h
  rw [h1]; rfl
theorem has_ok {l : List (List UInt8)} {q : List UInt8} (hl : l.length < 1000000000) : law10_has (l, q) = some (l.any fun x => x == q) := by
  unfold law10_has
  have := fixS_idx (R := Bool) (step := fun again1 s2 => if decide (s2 < (l.length : Int)) = true then ixL l s2 fun x3 => if (x3 == q) = true then some true else again1 (IntKind.wrap .i64 (s2 + 1)) else some false) l.length (fun i => some ((l.drop i).any fun x => x == q)) (by omega)
    (fun again => by simp) (fun i hi again ha => by
      rw [if_pos (by simp; omega), ixL_nat hi, wrap_succ (by omega), List.drop_eq_getElem_cons hi, List.any_cons]
      split
      · rename_i h; rw [h]; rfl
      · rename_i h
        have h : (l[i] == q) = false := by simpa using h
        rw [ha, h]; rfl)
  simpa using this
theorem has_mem {l : List (List UInt8)} {q : List UInt8} (hl : l.length < 1000000000) {b : Bool} (h : b = true ↔ q ∈ l) : law10_has (l, q) = some b := by
  rw [has_ok hl]
  congr 1
  cases b with
  | true =>
    rw [List.any_eq_true]
    exact ⟨q, h.1 rfl, by simp⟩
  | false =>
    rw [List.any_eq_false]
    intro x hx
    simp only [beq_iff_eq]
    rintro rfl
    have := h.2 hx
    cases this
theorem cnf_len (a b : List En) (ha : Mid a) (hb : Mid b) : (cnf a b).length ≤ 128 := by
  have h1 := keys_len a b
  have h2 := ha.n
  have h3 := hb.n
  unfold cnf
  have := List.length_filter_le (fun q => (pick a b q).2) (keysL a b)
  omega
end Go.Proofs.W.Q10
namespace Go.Proofs.W.Q10
open Go Go.Proofs.V Go.Proofs.W.Q9
set_option linter.unusedVariables false
set_option linter.unusedSimpArgs false
theorem find_cases {l : List En} (hR : RightS l) (q : List UInt8) : (getL l q = none ∧ scan_Find (l, q) = some (-1)) ∨ ∃ k, ∃ hk : k < l.length, l[k].1 = q ∧ getL l q = some l[k] ∧ scan_Find (l, q) = some (k : Int) := by
  have hl := hR.len
  have ha := RightS.asc hR
  cases hg : getL l q with
  | none => exact .inl ⟨rfl, find_none (right_back hR) (by omega) (getL_none.1 hg)⟩
  | some e =>
    obtain ⟨he, hq⟩ := getL_some hg
    obtain ⟨k, hk, rfl⟩ := List.getElem_of_mem he
    refine .inr ⟨k, hk, hq, rfl, ?_⟩
    rw [← hq]
    exact find_some (right_back hR) (by omega) hk fun i hi hne => asc_ne ha hi hk hne
/-- Two that tell the same of a path agree. -/
theorem agree_ok {x y : List En} (hx : RightS x) (hy : RightS y) {q : List UInt8} (h : getL x q = getL y q) : recon_Agree (x, (y, q)) = some true := by
  unfold recon_Agree
  dsimp only
  rw [right_back hx, Option.bind_some, if_neg (by simp), right_back hy, Option.bind_some, if_neg (by simp)]
  rcases find_cases hx q with ⟨g1, f1⟩ | ⟨k, hk, e1, g1, f1⟩
  · rcases find_cases hy q with ⟨g2, f2⟩ | ⟨k2, hk2, e2, g2, f2⟩
    · rw [f1, f2]; rfl
    · rw [g1, g2] at h; cases h
  · rcases find_cases hy q with ⟨g2, f2⟩ | ⟨k2, hk2, e2, g2, f2⟩
    · rw [g1, g2] at h; cases h
    · rw [g1, g2] at h
      have h := Option.some.inj h
      rw [f1, f2, Option.bind_some, Option.bind_some, if_neg (by simp), if_neg (by simp), ixL_nat hk, ixL_nat hk2, h]
      simp
theorem tick_lt {c : Int × Int} (h : ClOk c) (n : Int) (hf : ¬ ((tickZ c n).1 = c.1 ∧ (tickZ c n).2 = c.2)) : ltC c (tickZ c n) := by
  obtain ⟨a, b, rfl, ha, hb⟩ := h.nat
  cases hn : oddB n with
  | true =>
    have e : tickZ ((a : Int), (b : Int)) n = ((a : Int), ((min (b + 1) 1073741824 : Nat) : Int)) := by simp [tickZ, tickN, hn]
    rw [e] at hf ⊢
    unfold ltC
    dsimp only at hf ⊢
    omega
  | false =>
    have e : tickZ ((a : Int), (b : Int)) n = (((min (a + 1) 1073741824 : Nat) : Int), (b : Int)) := by simp [tickZ, tickN, hn]
    rw [e] at hf ⊢
    unfold ltC
    dsimp only at hf ⊢
    omega
section
variable {a b : List En} {p : List UInt8} {take : Bool} {n : Int} {k1 k2 : Nat}
end
end Go.Proofs.W.Q10
namespace Go.Proofs.W.Q10
open Go Go.Proofs.V Go.Proofs.W.Q9
set_option linter.unusedVariables false
set_option linter.unusedSimpArgs false
/-- A loop that ends by a measure. -/
theorem loop_meas {S R : Type} {step : (S → Option R) → S → Option R} (μ : S → Nat) (I : S → Prop) (r : Option R) (hstep : ∀ again s, I s → (∀ s', I s' → μ s' < μ s → again s' = r) → step again s = r) {s0 : S} (h0 : I s0) (hm : μ s0 < fuel) : fixS step fuel s0 = r := by
  rw [fixS_eq]
  have key : ∀ k s, I s → μ s < k → fixN step k s = r := by
    intro k
    induction k with
    | zero => intro s _ h; omega
    | succ k ih =>
      intro s hs h
      rw [fixN]
      exact hstep _ s hs fun s' hs' hlt => ih s' hs' (by omega)
  exact key fuel s0 h0 hm
theorem half_ok {R : Type} {n : Nat} (h : n < 4000000000000000000) (f : Int → Option R) : shG .shr .u64 (IntKind.wrap .u64 (IntKind.wrap .i64 (n : Int))) 1 f = f ((n / 2 : Nat) : Int) := by
  unfold shG
  rw [if_neg (by decide), wrapI (by omega) (by omega)]
  have e : IntKind.wrap .u64 (n : Int) = (n : Int) := by
    show (n : Int) % (2 ^ 64 : Int) = (n : Int)
    omega
  rw [e]
  congr 1
  show (n : Int).fdiv (2 ^ (Min.min (1 : Int).toNat 64)) = _
  have : (2 : Int) ^ (Min.min (1 : Int).toNat 64) = 2 := by decide
  rw [this, Int.fdiv_eq_ediv_of_nonneg _ (by decide)]
  omega
theorem cmp_lt : ∀ x y : List UInt8, decide (Lib.compareBytes x y < 0) = Op.bytesLess x y
  | [], [] => rfl
  | [], y :: ys => rfl
  | x :: xs, [] => rfl
  | x :: xs, y :: ys => by
    unfold Lib.compareBytes Op.bytesLess
    split
    · rename_i h; simp [h]
    · rename_i h
      split
      · rename_i h2
        have : x ≠ y := by rintro rfl; exact h h2
        simp [h, this]
      · rename_i h2
        have : x = y := UInt8.le_antisymm (UInt8.not_lt.1 h2) (UInt8.not_lt.1 h)
        subst this
        rw [cmp_lt xs ys]
        simp [UInt8.lt_irrefl]
theorem cmp_eq : ∀ x y : List UInt8, (Lib.compareBytes x y == 0) = (x == y)
  | [], [] => rfl
  | [], y :: ys => rfl
  | x :: xs, [] => rfl
  | x :: xs, y :: ys => by
    unfold Lib.compareBytes
    split
    · rename_i h
      have : x ≠ y := by rintro rfl; exact UInt8.lt_irrefl _ h
      simp [this]
    · rename_i h
      split
      · rename_i h2
        have : x ≠ y := by rintro rfl; exact h h2
        simp [this]
      · rename_i h2
        have : x = y := UInt8.le_antisymm (UInt8.not_lt.1 h2) (UInt8.not_lt.1 h)
        subst this
        rw [cmp_eq xs ys]
        simp
abbrev AscF (t : List Fi) : Prop := Asc (fun f : Fi => f.1) t
theorem place_ok {t : List Fi} (ht : AscF t) (hl : t.length ≤ 1000000) (q : List UInt8) : ∃ k : Nat, k ≤ t.length ∧ (∀ i, (hi : i < t.length) → (Op.bytesLess t[i].1 q = true ↔ i < k)) ∧ tree_place (t, q) = some ((k : Int), if h : k < t.length then t[k].1 == q else false) := by
  obtain ⟨k, hk⟩ : ∃ k, k = t.findIdx fun f => !Op.bytesLess f.1 q := ⟨_, rfl⟩
  have hkl : k ≤ t.length := by rw [hk]; exact List.findIdx_le_length
  have hless : ∀ i, (hi : i < t.length) → (Op.bytesLess t[i].1 q = true ↔ i < k) := by
    intro i hi
    constructor
    · intro h
      rcases Nat.lt_or_ge i k with h1 | h1
      · exact h1
      · exfalso
        have hk2 : k < t.length := by omega
        have h2 : (!Op.bytesLess t[k].1 q) = true := by
          have := List.findIdx_getElem (xs := t) (p := fun f => !Op.bytesLess f.1 q) (w := by rw [← hk]; exact hk2)
          simpa only [← hk] using this
        rcases Nat.lt_or_ge k i with h3 | h3
        · have h4 : Les t[k].1 t[i].1 := List.pairwise_iff_getElem.1 ht k i hk2 hi h3
          rw [Q9.less_trans h4 h] at h2
          cases h2
        · have : i = k := by omega
          subst this
          rw [h] at h2
          cases h2
    · intro h
      have := List.not_of_lt_findIdx (p := fun f : Fi => !Op.bytesLess f.1 q) (xs := t) (i := i) (by rw [← hk]; exact h)
      simpa using this
  refine ⟨k, hkl, hless, ?_⟩
  have h1 : ∀ f : Fi, tree_place_1 (f.1, (f.2, q)) = some (Lib.compareBytes f.1 q) := fun f => rfl
  have key : slices_BinarySearchFunc_string_tree_place_1 (t, q) = some ((k : Int), if h : k < t.length then t[k].1 == q else false) := by
    unfold slices_BinarySearchFunc_string_tree_place_1
    refine loop_meas (fun s => (s.2 - s.1).toNat) (fun s => ∃ lo hi : Nat, s = ((lo : Int), (hi : Int)) ∧ lo ≤ k ∧ k ≤ hi ∧ hi ≤ t.length) _ (fun again s hI ha => ?_) ⟨0, t.length, rfl, by omega, hkl, by omega⟩ (by unfold fuel; simp; omega)
    obtain ⟨lo, hi, rfl, hlo, hhi, hhl⟩ := hI
    dsimp only
    by_cases hlt : lo < hi
    · have e1 : ((lo : Int) + (hi : Int)) = ((lo + hi : Nat) : Int) := by omega
      rw [if_pos (by simp; omega), e1, half_ok (by omega)]
      have hm : (lo + hi) / 2 < t.length := by omega
      rw [wrapI (by omega) (by omega), ixL_nat hm, h1, Option.bind_some, cmp_lt]
      by_cases hc : Op.bytesLess t[(lo + hi) / 2].1 q = true
      · rw [if_pos hc]
        have := (hless _ hm).1 hc
        rw [wrap_succ (by omega)]
        exact ha _ ⟨(lo + hi) / 2 + 1, hi, rfl, by omega, hhi, hhl⟩ (by dsimp only; omega)
      · rw [if_neg hc]
        have : ¬ (lo + hi) / 2 < k := fun h => hc ((hless _ hm).2 h)
        exact ha _ ⟨lo, (lo + hi) / 2, rfl, hlo, by omega, by omega⟩ (by dsimp only; omega)
    · have : lo = k := by omega
      subst this
      rw [if_neg (by simp; omega)]
      by_cases h : lo < t.length
      · rw [if_pos (by simp; omega), ixL_nat h, h1, Option.bind_some, cmp_eq, dif_pos h]
      · rw [if_neg (by simp; omega), dif_neg h]
  unfold tree_place
  show (slices_BinarySearchFunc_string_tree_place_1 (t, q)).bind _ = _
  rw [key]
  rfl
/-- What a tree has at a path. -/
def getT (t : List Fi) (q : List UInt8) : Option (List UInt8) := (t.find? fun f => decide (f.1 = q)).map (·.2)
theorem getT_iff {t : List Fi} (ht : AscF t) {q d : List UInt8} : getT t q = some d ↔ (q, d) ∈ t := by
  unfold getT
  constructor
  · intro h
    obtain ⟨f, hf, rfl⟩ := Option.map_eq_some_iff.1 h
    have h1 := List.mem_of_find?_eq_some hf
    have h2 := List.find?_some hf
    have h2 : f.1 = q := by simpa using h2
    rw [← h2]; exact h1
  · intro h
    cases hf : t.find? fun f => decide (f.1 = q) with
    | none =>
      have := List.find?_eq_none.1 hf (q, d) h
      simp at this
    | some f =>
      have h1 := List.mem_of_find?_eq_some hf
      have h2 := List.find?_some hf
      have h2 : f.1 = q := by simpa using h2
      have := asc_inj ht h1 h (by exact h2)
      rw [this]; rfl
theorem getT_none {t : List Fi} {q : List UInt8} : getT t q = none ↔ ∀ f ∈ t, f.1 ≠ q := by
  unfold getT
  rw [Option.map_eq_none_iff, List.find?_eq_none]
  simp
theorem treeX_asc {t : List Fi} (h : TreeX t) : AscF t := asc_of _ t h.up
theorem findT_cases {t : List Fi} (hb : ∀ g ∈ t, g.1.length ≤ 1000000) (hR : TreeX t) (q : List UInt8) : (getT t q = none ∧ tree_Find (t, q) = some (-1)) ∨ ∃ k, ∃ hk : k < t.length, t[k].1 = q ∧ getT t q = some t[k].2 ∧ tree_Find (t, q) = some (k : Int) := by
  have hl := hR.len
  have ha := treeX_asc hR
  obtain ⟨k, hkl, hless, hp⟩ := place_ok ha (by omega) q
  have hn : (∀ f ∈ t, f.1 ≠ q) ∨ ∃ h : k < t.length, t[k].1 = q := by
    by_cases h : ∃ h : k < t.length, t[k].1 = q
    · exact .inr h
    · refine .inl fun f hf hq => h ?_
      obtain ⟨i, hi, rfl⟩ := List.getElem_of_mem hf
      have h1 : ¬ i < k := fun hik => by
        have := (hless i hi).2 hik
        rw [hq, less_irrefl] at this
        cases this
      have h2 : ¬ k < i := fun hki => by
        have h3 : Les t[k].1 t[i].1 := List.pairwise_iff_getElem.1 ha k i (by omega) hi hki
        rw [hq] at h3
        have := (hless k (by omega)).1 h3
        omega
      have : i = k := by omega
      subst this
      exact ⟨hi, hq⟩
  rcases hn with hn | ⟨hk, hq⟩
  · refine .inl ⟨getT_none.2 hn, ?_⟩
    unfold tree_Find
    dsimp only
    rw [hp, Option.bind_some]
    rw [if_neg]
    by_cases h : k < t.length
    · rw [dif_pos h]
      have := hn _ (List.getElem_mem h)
      simpa using this
    · rw [dif_neg h]; simp
  · refine .inr ⟨k, hk, hq, (getT_iff ha).2 (by rw [← hq]; exact List.getElem_mem hk), ?_⟩
    unfold tree_Find
    dsimp only
    rw [hp, Option.bind_some, if_pos (by rw [dif_pos hk, hq]; simp), treeX_back hb hR, Option.bind_some, if_pos rfl]
theorem get_ok {t : List Fi} (hb : ∀ g ∈ t, g.1.length ≤ 1000000) (hR : TreeX t) (q : List UInt8) : tree_Get (t, q) = some ((getT t q).getD [], (getT t q).isSome) := by
  unfold tree_Get
  dsimp only
  rcases findT_cases hb hR q with ⟨g, f⟩ | ⟨k, hk, hq, g, f⟩
  · rw [f, Option.bind_some, if_pos (by decide), g]
    rfl
  · rw [f, Option.bind_some, if_neg (by simp), ixL_nat hk, g]
    rfl
end Go.Proofs.W.Q10
namespace Go.Proofs.W.Q10
open Go Go.Proofs.V Go.Proofs.W.Q9
set_option linter.unusedVariables false
set_option linter.unusedSimpArgs false
theorem merge_cover (l : List En) (t : List Fi) : ∀ e ∈ l, ∃ p ∈ mergeP l t, p.1 = e := by
  induction l, t using mergeP.induct with
  | case1 => intro e he; cases he
  | case2 a l ih =>
    intro e he
    rw [mergeP]
    rcases List.mem_cons.1 he with rfl | he
    · exact ⟨_, List.mem_cons_self, rfl⟩
    · obtain ⟨p, hp, h⟩ := ih e he
      exact ⟨p, by simp [hp], h⟩
  | case3 f t ih => intro e he; cases he
  | case4 a l f t hlt ih =>
    intro e he
    rw [mergeP, if_pos hlt]
    rcases List.mem_cons.1 he with rfl | he
    · exact ⟨_, List.mem_cons_self, rfl⟩
    · obtain ⟨p, hp, h⟩ := ih e he
      exact ⟨p, by simp [hp], h⟩
  | case5 a l f t hlt hgt ih =>
    intro e he
    rw [mergeP, if_neg hlt, if_pos hgt]
    obtain ⟨p, hp, h⟩ := ih e he
    exact ⟨p, by simp [hp], h⟩
  | case6 a l f t hlt hgt ih =>
    intro e he
    rw [mergeP, if_neg hlt, if_neg hgt]
    rcases List.mem_cons.1 he with rfl | he
    · exact ⟨_, List.mem_cons_self, rfl⟩
    · obtain ⟨p, hp, h⟩ := ih e he
      exact ⟨p, by simp [hp], h⟩
theorem getT_files {L : List En} (h : AscE L) (q : List UInt8) : getT (filesP L) q = (getL L q).bind fun e => if e.2.1 = true then some e.2.2.1 else none := by
  have ha := asc_files h
  cases hg : getL L q with
  | none =>
    refine getT_none.2 fun f hf hq => ?_
    obtain ⟨e, he, _, rfl⟩ := mem_files.1 hf
    exact getL_none.1 hg e he hq
  | some e =>
    obtain ⟨he, hq⟩ := getL_some hg
    show _ = if e.2.1 = true then some e.2.2.1 else none
    by_cases hb : e.2.1 = true
    · rw [if_pos hb]
      exact (getT_iff ha).2 (mem_files.2 ⟨e, he, hb, by rw [hq]⟩)
    · rw [if_neg hb]
      refine getT_none.2 fun f hf hfq => ?_
      obtain ⟨e', he', hb', rfl⟩ := mem_files.1 hf
      have : e' = e := asc_inj h he' he (hfq.trans hq.symm)
      rw [this] at hb'
      exact hb hb'
/-- What a scan tells of a path. -/
inductive ScanAt (a : List En) (t : List Fi) (n : Int) (S : List En) (C : List (List UInt8)) (q : List UInt8) : Prop
  | none (h1 : getL a q = .none) (h2 : getT t q = .none) (h3 : getL S q = .none) (h4 : q ∉ C)
  | same (e : En) (h1 : getL a q = some e) (h2 : getT t q = if e.2.1 = true then some e.2.2.1 else .none) (h3 : getL S q = some e) (h4 : q ∉ C)
  | changed (c : Int × Int) (ok : ClOk c) (h1 : ((getL a q).map (·.2.2.2)).getD (0, 0) = c) (h3 : getL S q = some (q, ((getT t q).isSome, ((getT t q).getD [], tickZ c n)))) (h4 : q ∈ C) (h5 : ¬ ((tickZ c n).1 = c.1 ∧ (tickZ c n).2 = c.2))
theorem scan_at {a : List En} {t : List Fi} (ra : RightS a) (ht : tree_Right t = some true) (n : Int) (hf : (mergeP a t).any (fullP n) = false) (q : List UInt8) : ScanAt a t n ((mergeP a t).map (outP n)) (((mergeP a t).filter ch).map (·.2.1)) q := by
  obtain ⟨k1, k2⟩ := mergeR ra ht
  have aS : AscE ((mergeP a t).map (outP n)) := by
    unfold AscE Asc
    rw [List.pairwise_map]
    refine List.Pairwise.imp_of_mem ?_ k2
    intro x y hx hy h
    show Les (outP n x).1 (outP n y).1
    rw [out_path n (k1 x hx), out_path n (k1 y hy)]
    exact h
  have aN : AscE ((mergeP a t).map (·.2)) := by
    unfold AscE Asc
    rw [List.pairwise_map]
    refine List.Pairwise.imp_of_mem ?_ k2
    intro x y hx hy h
    show Les x.2.1 y.2.1
    rw [(k1 x hx).path, (k1 y hy).path]
    exact h
  have hT := getT_files aN q
  rw [merge_files] at hT
  by_cases hex : ∃ p ∈ mergeP a t, p.1.1 = q
  · obtain ⟨p, hp, rfl⟩ := hex
    have hpk := k1 p hp
    have gS : getL ((mergeP a t).map (outP n)) p.1.1 = some (outP n p) := (getL_iff aS).2 ⟨List.mem_map.2 ⟨p, hp, rfl⟩, out_path n hpk⟩
    have gN : getL ((mergeP a t).map (·.2)) p.1.1 = some p.2 := (getL_iff aN).2 ⟨List.mem_map.2 ⟨p, hp, rfl⟩, hpk.path⟩
    rw [gN] at hT
    have hT : getT t p.1.1 = if p.2.2.1 = true then some p.2.2.2.1 else none := hT
    have hmc := mem_changed k1 k2 hp
    cases hc : ch p with
    | false =>
      obtain ⟨s1, s2, s3⟩ := same_of hc
      have hm := same_mem hpk hc
      have ho : outP n p = p.1 := by unfold outP; rw [if_neg (by simp [hc])]
      refine .same p.1 (getL_mem (RightS.asc ra) hm) ?_ (by rw [gS, ho]) (fun h => by rw [hmc.1 h] at hc; cases hc)
      rw [hT, s2, s3]
    | true =>
      have ho : outP n p = (p.2.1, (p.2.2.1, (p.2.2.2.1, tickZ p.1.2.2.2 n))) := by unfold outP; rw [if_pos hc]
      have hcl := pair_cl ra.ok hpk
      have hful : fullP n p = false := by
        rw [List.any_eq_false] at hf
        simpa using hf p hp
      refine .changed p.1.2.2.2 hcl ?_ ?_ (hmc.2 hc) ?_
      · rcases hpk with ⟨hm, _⟩ | ⟨f, _, h1, _, h3⟩ | ⟨hm, _⟩
        · rw [getL_mem (RightS.asc ra) hm]; rfl
        · have : getL a p.1.1 = none := getL_none.2 fun e he => by rw [h1]; exact h3 e he
          rw [this, h1]; rfl
        · rw [getL_mem (RightS.asc ra) hm]; rfl
      · rw [gS, ho, hpk.path, hT]
        by_cases hb : p.2.2.1 = true
        · rw [if_pos hb, hb]; rfl
        · have hb' : p.2.2.1 = false := by simpa using hb
          rw [if_neg hb, hb']
          have : p.2.2.2.1 = [] := by
            rcases hpk with ⟨_, h⟩ | ⟨f, _, _, h, _⟩ | ⟨_, f, _, h, _⟩
            · rw [h]; rfl
            · rw [h] at hb'; cases hb'
            · rw [h] at hb'; cases hb'
          rw [this]; rfl
      · intro h
        unfold fullP at hful
        rw [hc, h.1, h.2] at hful
        simp at hful
  · have gS : getL ((mergeP a t).map (outP n)) q = none := getL_none.2 fun e he hq => by
      obtain ⟨p, hp, rfl⟩ := List.mem_map.1 he
      rw [out_path n (k1 p hp)] at hq
      exact hex ⟨p, hp, hq⟩
    have gN : getL ((mergeP a t).map (·.2)) q = none := getL_none.2 fun e he hq => by
      obtain ⟨p, hp, rfl⟩ := List.mem_map.1 he
      exact hex ⟨p, hp, (k1 p hp).path.symm.trans hq⟩
    rw [gN] at hT
    refine .none (getL_none.2 fun e he hq => ?_) hT gS (fun h => ?_)
    · obtain ⟨p, hp, rfl⟩ := merge_cover a t e he
      exact hex ⟨p, hp, hq⟩
    · obtain ⟨p, hp, hq⟩ := List.mem_map.1 h
      have hp := (List.mem_filter.1 hp).1
      exact hex ⟨p, hp, (k1 p hp).path.symm.trans hq⟩
noncomputable def tailA (m a : List En) (q : List UInt8) (b1 b2 : Bool) (again : Int → Option Bool) (s : Int) : Option Bool :=
  if (!b1) = true then if (!b2) = true then (recon_Agree (m, (a, q))).bind fun r19 => if (!r19) = true then some false else again (IntKind.wrap .i64 (s + 1)) else again (IntKind.wrap .i64 (s + 1)) else again (IntKind.wrap .i64 (s + 1))
noncomputable def chk (m a : List En) (q : List UInt8) (b1 b2 : Bool) (again : Int → Option Bool) (s : Int) (v : List UInt8 × Bool) : Option Bool :=
  ixL m s fun x17 => if (!(x17.2.1 == v.2)) = true then some false else ixL m s fun x18 => if (!(x18.2.2.1 == v.1)) = true then some false else tailA m a q b1 b2 again s
theorem chk_ok {m a : List En} {q : List UInt8} {b1 b2 : Bool} {again : Int → Option Bool} {i : Nat} {v : List UInt8 × Bool} (hi : i < m.length) (hl : m.length ≤ 1000000) (h1 : m[i].2.1 = v.2) (h2 : m[i].2.2.1 = v.1) (h3 : b1 = false → b2 = false → recon_Agree (m, (a, q)) = some true) (ha : again ((i + 1 : Nat) : Int) = some true) : chk m a q b1 b2 again (i : Int) v = some true := by
  unfold chk tailA
  rw [ixL_nat hi, if_neg (by rw [h1]; simp), ixL_nat hi, if_neg (by rw [h2]; simp), wrap_succ (by omega)]
  cases b1 with
  | true => rw [if_neg (by simp), ha]
  | false =>
    cases b2 with
    | true => rw [if_pos (by rfl), if_neg (by simp), ha]
    | false => rw [if_pos (by rfl), if_pos (by rfl), h3 rfl rfl, Option.bind_some, if_neg (by simp), ha]
theorem up_sub_len {a b : List (List UInt8)} (ha : Up a) (hb : Up b) (h : ∀ q ∈ a, q ∈ b) : a.length ≤ b.length := by
  have : a = b.filter fun q => decide (q ∈ a) := by
    refine up_eq ha (List.Pairwise.sublist List.filter_sublist hb) fun q => ?_
    rw [List.mem_filter]
    constructor
    · intro hq; exact ⟨h q hq, by simpa using hq⟩
    · rintro ⟨_, hq⟩; simpa using hq
  rw [this]
  exact List.length_filter_le _ _
theorem tick0 {c : Int × Int} (h : ClOk c) (hf : ¬ ((tickZ c 0).1 = c.1 ∧ (tickZ c 0).2 = c.2)) : tickZ c 0 = (c.1 + 1, c.2) := by
  obtain ⟨a, b, rfl, ha, hb⟩ := h.nat
  have hn : oddB 0 = false := by kernel_rfl
  have e : tickZ ((a : Int), (b : Int)) 0 = (((min (a + 1) 1073741824 : Nat) : Int), (b : Int)) := by simp [tickZ, tickN, hn]
  rw [e] at hf ⊢
  dsimp only at hf ⊢
  simp only [Prod.mk.injEq, and_true]
  omega
theorem tick1 {c : Int × Int} (h : ClOk c) (hf : ¬ ((tickZ c 1).1 = c.1 ∧ (tickZ c 1).2 = c.2)) : tickZ c 1 = (c.1, c.2 + 1) := by
  obtain ⟨a, b, rfl, ha, hb⟩ := h.nat
  have hn : oddB 1 = true := by kernel_rfl
  have e : tickZ ((a : Int), (b : Int)) 1 = ((a : Int), ((min (b + 1) 1073741824 : Nat) : Int)) := by simp [tickZ, tickN, hn]
  rw [e] at hf ⊢
  dsimp only at hf ⊢
  simp only [Prod.mk.injEq, true_and]
  omega
/-- What comes of a path, of two scans of one archive. -/
structure Side (a : List En) (t1 t2 : List Fi) (q : List UInt8) (e : En) (b1 b2 bc : Bool) : Prop where
  conf : bc = (b1 && b2 && !decide (getT t1 q = getT t2 q))
  mine : ¬ (b1 = false ∧ b2 = true) → e.2.1 = (getT t1 q).isSome ∧ e.2.2.1 = (getT t1 q).getD []
  other : b1 = false ∧ b2 = true → e.2.1 = (getT t2 q).isSome ∧ e.2.2.1 = (getT t2 q).getD []
  own : b1 = false → b2 = false → getL a q = some e
theorem side_ok {a : List En} {t1 t2 : List Fi} {S1 S2 : List En} {C1 C2 : List (List UInt8)} {q : List UInt8} {e : En} (oka : ∀ e ∈ a, EnOk e) (s1 : ScanAt a t1 0 S1 C1 q) (s2 : ScanAt a t2 1 S2 C2 q) (he : getL (mrg S1 S2) q = some e) : Side a t1 t2 q e (decide (q ∈ C1)) (decide (q ∈ C2)) (decide (q ∈ cnf S1 S2)) := by
  rw [getL_mrg] at he
  have hcf : q ∈ cnf S1 S2 ↔ ∃ x y, getL S1 q = some x ∧ getL S2 q = some y ∧ (comeP x y).2 = true := mem_cnf
  have vals : ∀ {x : En} {t : List Fi}, getL a q = some x → (getT t q = if x.2.1 = true then some x.2.2.1 else none) → x.2.1 = (getT t q).isSome ∧ x.2.2.1 = (getT t q).getD [] := by
    intro x t hx ht
    have hem := (oka x (getL_some hx).1).empty
    rw [ht]
    by_cases hb : x.2.1 = true
    · rw [if_pos hb]; exact ⟨hb, rfl⟩
    · have hb' : x.2.1 = false := by simpa using hb
      rw [if_neg hb]; exact ⟨hb', hem hb'⟩
  rcases s1 with ⟨a1, a2, a3, a4⟩ | ⟨x, a1, a2, a3, a4⟩ | ⟨c, okc, a1, a3, a4, a5⟩
  · rcases s2 with ⟨b1, b2, b3, b4⟩ | ⟨y, b1, b2, b3, b4⟩ | ⟨d, okd, b1, b3, b4, b5⟩
    · rw [a3, b3] at he; cases he
    · rw [a1] at b1; cases b1
    · rw [a3, b3] at he
      have he : (q, ((getT t2 q).isSome, ((getT t2 q).getD [], tickZ d 1))) = e := by simpa [joinO] using he
      have hno : q ∉ cnf S1 S2 := fun h => by obtain ⟨x, y, h1, _⟩ := hcf.1 h; rw [a3] at h1; cases h1
      rw [decide_eq_false a4, decide_eq_true b4, decide_eq_false hno]
      exact ⟨rfl, fun h => absurd ⟨rfl, rfl⟩ h, fun _ => (by rw [← he]; exact ⟨rfl, rfl⟩), fun _ h => by cases h⟩
  · rcases s2 with ⟨b1, b2, b3, b4⟩ | ⟨y, b1, b2, b3, b4⟩ | ⟨d, okd, b1, b3, b4, b5⟩
    · rw [a1] at b1; cases b1
    · rw [a1] at b1; cases b1
      rw [a3, b3] at he
      have he : x = e := by simpa [joinO, come_self] using he
      subst he
      have hno : q ∉ cnf S1 S2 := fun h => by obtain ⟨x', y', h1, h2, h3⟩ := hcf.1 h; rw [a3] at h1; rw [b3] at h2; cases h1; cases h2; rw [come_self] at h3; cases h3
      rw [decide_eq_false a4, decide_eq_false b4, decide_eq_false hno]
      exact ⟨rfl, fun _ => vals a1 a2, fun h => (by cases h.2), fun _ _ => a1⟩
    · rw [a1] at b1
      have hd : x.2.2.2 = d := b1
      rw [a3, b3] at he
      have hlt := tick_lt okd 1 b5
      have hxp : x.1 = q := (getL_some a1).2
      have hcm : comeP x (q, ((getT t2 q).isSome, ((getT t2 q).getD [], tickZ d 1))) = ((q, ((getT t2 q).isSome, ((getT t2 q).getD [], tickZ d 1))), false) := by
        have h1 := come_up (r := (q, ((getT t2 q).isSome, ((getT t2 q).getD [], tickZ d 1)))) (x := x) hxp.symm (by rw [hd]; unfold ltC at hlt; exact hlt.1) (.inl (by rw [hd]; exact hlt))
        have h2 := come_comm (x := x) (y := (q, ((getT t2 q).isSome, ((getT t2 q).getD [], tickZ d 1)))) hxp
        rw [h1] at h2
        exact Prod.ext (h2.2 h2.1) h2.1
      have he : (q, ((getT t2 q).isSome, ((getT t2 q).getD [], tickZ d 1))) = e := by simpa [joinO, hcm] using he
      have hno : q ∉ cnf S1 S2 := fun h => by obtain ⟨x', y', h1, h2, h3⟩ := hcf.1 h; rw [a3] at h1; rw [b3] at h2; cases h1; cases h2; rw [hcm] at h3; cases h3
      rw [decide_eq_false a4, decide_eq_true b4, decide_eq_false hno]
      exact ⟨rfl, fun h => absurd ⟨rfl, rfl⟩ h, fun _ => (by rw [← he]; exact ⟨rfl, rfl⟩), fun _ h => by cases h⟩
  · rcases s2 with ⟨b1, b2, b3, b4⟩ | ⟨y, b1, b2, b3, b4⟩ | ⟨d, okd, b1, b3, b4, b5⟩
    · rw [a3, b3] at he
      have he : (q, ((getT t1 q).isSome, ((getT t1 q).getD [], tickZ c 0))) = e := by simpa [joinO] using he
      have hno : q ∉ cnf S1 S2 := fun h => by obtain ⟨x, y, _, h1, _⟩ := hcf.1 h; rw [b3] at h1; cases h1
      rw [decide_eq_true a4, decide_eq_false b4, decide_eq_false hno]
      exact ⟨rfl, fun _ => (by rw [← he]; exact ⟨rfl, rfl⟩), fun h => (by cases h.1), fun h => (by cases h)⟩
    · rw [b1] at a1
      have hd : y.2.2.2 = c := a1
      rw [a3, b3] at he
      have hlt := tick_lt okc 0 a5
      have hyp : y.1 = q := (getL_some b1).2
      have hcm := come_up (r := (q, ((getT t1 q).isSome, ((getT t1 q).getD [], tickZ c 0)))) (x := y) hyp.symm (by rw [hd]; unfold ltC at hlt; exact hlt.1) (.inl (by rw [hd]; exact hlt))
      have he : (q, ((getT t1 q).isSome, ((getT t1 q).getD [], tickZ c 0))) = e := by simpa [joinO, hcm] using he
      have hno : q ∉ cnf S1 S2 := fun h => by obtain ⟨x', y', h1, h2, h3⟩ := hcf.1 h; rw [a3] at h1; rw [b3] at h2; cases h1; cases h2; rw [hcm] at h3; cases h3
      rw [decide_eq_true a4, decide_eq_false b4, decide_eq_false hno]
      exact ⟨rfl, fun _ => (by rw [← he]; exact ⟨rfl, rfl⟩), fun h => (by cases h.1), fun h => (by cases h)⟩
    · have hcd : c = d := a1.symm.trans b1
      subst hcd
      rw [a3, b3] at he
      have e0 := tick0 okc a5
      have e1 := tick1 okc b5
      obtain ⟨X, hX⟩ : ∃ X : En, X = (q, ((getT t1 q).isSome, ((getT t1 q).getD [], tickZ c 0))) := ⟨_, rfl⟩
      obtain ⟨Y, hY⟩ : ∃ Y : En, Y = (q, ((getT t2 q).isSome, ((getT t2 q).getD [], tickZ c 1))) := ⟨_, rfl⟩
      rw [← hX] at a3 he
      rw [← hY] at b3 he
      have hxc : X.2.2.2 = (c.1 + 1, c.2) := by rw [hX]; exact e0
      have hyc : Y.2.2.2 = (c.1, c.2 + 1) := by rw [hY]; exact e1
      have he : (comeP X Y).1 = e := by simpa [joinO] using he
      have hn1 : ¬ ltC X.2.2.2 Y.2.2.2 := by rw [hxc, hyc]; unfold ltC; dsimp only; omega
      have hn2 : ¬ ltC Y.2.2.2 X.2.2.2 := by rw [hxc, hyc]; unfold ltC; dsimp only; omega
      have hv : valV X = valV Y ↔ getT t1 q = getT t2 q := by
        rw [hX, hY]
        unfold valV
        simp only [Prod.mk.injEq]
        cases getT t1 q <;> cases getT t2 q <;> simp
      have hiff : (comeP X Y).2 = false ↔ getT t1 q = getT t2 q := by
        rw [come_iff]
        constructor
        · rintro (h | h | h)
          · exact absurd h hn1
          · exact absurd h hn2
          · exact hv.1 h
        · intro h; exact .inr (.inr (hv.2 h))
      have hee : e.2.1 = X.2.1 ∧ e.2.2.1 = X.2.2.1 := by
        rw [← he]
        cases hb : (comeP X Y).2 with
        | true => rw [come_conf hb]; exact ⟨rfl, rfl⟩
        | false =>
          rw [come_nc (by rw [hX, hY]) hb, if_neg hn1]
          exact ⟨rfl, rfl⟩
      have hcn : decide (q ∈ cnf S1 S2) = !decide (getT t1 q = getT t2 q) := by
        by_cases h : getT t1 q = getT t2 q
        · rw [decide_eq_true h, decide_eq_false]
          · rfl
          · intro hq
            obtain ⟨x', y', h1, h2, h3⟩ := hcf.1 hq
            rw [a3] at h1; rw [b3] at h2; cases h1; cases h2
            rw [hiff.2 h] at h3; cases h3
        · rw [decide_eq_false h, decide_eq_true]
          · rfl
          · refine hcf.2 ⟨X, Y, a3, b3, ?_⟩
            cases hb : (comeP X Y).2 with
            | true => rfl
            | false => exact absurd (hiff.1 hb) h
      rw [decide_eq_true a4, decide_eq_true b4, hcn]
      refine ⟨by simp, fun _ => ?_, fun h => (by cases h.1), fun h => (by cases h)⟩
      rw [hee.1, hee.2, hX]
      exact ⟨rfl, rfl⟩
end Go.Proofs.W.Q10
namespace Go.Proofs.W.Q10
open Go Go.Proofs.V Go.Proofs.W.Q9
set_option linter.unusedVariables false
set_option linter.unusedSimpArgs false
theorem few_treeB {t : List Fi} (h : (decide (t.length ≤ 40) && t.all okFi) = true) : ∀ g ∈ t, g.1.length ≤ 1000000 := by
  intro g hg
  simp only [Bool.and_eq_true, decide_eq_true_eq] at h
  have := List.all_eq_true.1 h.2 g hg
  simp only [okFi, Bool.and_eq_true, decide_eq_true_eq] at this
  omega
end Go.Proofs.W.Q10
namespace Go.Proofs.W.Q10
open Go Go.Proofs.V Go.Proofs.W.Q9
set_option linter.unusedVariables false
set_option linter.unusedSimpArgs false
theorem merge_tot {p q : List En} (hp : Mid p) (hq : Mid q) : ∃ m, recon_Merge (p, q) = some m ∧ (m.2.2 = 0 → RightS p ∧ RightS q ∧ mayP (mrg p q) = 0 ∧ m = (mrg p q, (cnf p q, 0))) := by
  rcases merge_all hp hq with ⟨_, h⟩ | ⟨_, _, hm, h⟩ | ⟨h1, h2, hm, h⟩
  · exact ⟨_, h, fun e => by cases e⟩
  · exact ⟨_, h, fun e => absurd e hm⟩
  · exact ⟨_, h, fun _ => ⟨h1, h2, hm, rfl⟩⟩
theorem scan_mid {a : List En} {t : List Fi} (ra : RightS a) (ht : tree_Right t = some true) (ma : Mid a) (hb : ∀ g ∈ t, g.1.length ≤ 1000000) (n : Int) (h3 : (mergeP a t).length ≤ 32) : Mid ((mergeP a t).map (outP n)) := by
  obtain ⟨k1, k2⟩ := mergeR ra ht
  refine ⟨by rw [List.length_map]; omega, fun e he => ?_⟩
  obtain ⟨p, hp, rfl⟩ := List.mem_map.1 he
  rw [out_path n (k1 p hp)]
  rcases (k1 p hp).mem with ⟨e, he, h⟩ | ⟨f, hf, h⟩
  · rw [← h]; exact ma.p e he
  · rw [← h]; exact hb f hf
theorem sides_ok (x : List En × (List Fi × List Fi)) : law10_ReconSides x = some true := by
  obtain ⟨a, t1, t2⟩ := x
  unfold law10_ReconSides
  dsimp only
  rw [small_ok, Option.bind_some, few9_ok, Option.bind_some, few4_ok, Option.bind_some, few4_ok, Option.bind_some]
  cases hf : (decide (a.length ≤ 60) && a.all okEn) with
  | false => rfl
  | true =>
  rw [if_neg (by simp)]
  cases hg : (decide (t1.length ≤ 40) && t1.all okFi) with
  | false => rfl
  | true =>
  rw [if_neg (by simp)]
  cases hh : (decide (t2.length ≤ 40) && t2.all okFi) with
  | false => rfl
  | true =>
  rw [if_neg (by simp)]
  have ma := (few_small hf).mid
  have hb1 := few_treeB hg
  have hb2 := few_treeB hh
  obtain ⟨ba, ea⟩ := ma.ends
  obtain ⟨bt1, et1⟩ := treeRight_ends t1 hb1
  obtain ⟨bt2, et2⟩ := treeRight_ends t2 hb2
  have hal := ma.n
  rcases scan_all (t := t1) 0 (by omega) ea et1 with ⟨e, he, h1⟩ | ⟨ra, ht1, hf1, h31, h1⟩
  · have hm : ∀ r6, Mid r6 → ∃ m, recon_Merge ([], r6) = some m := fun r6 h => by obtain ⟨m, hm, _⟩ := merge_tot mid_nil h; exact ⟨m, hm⟩
    rcases scan_all (t := t2) 1 (by omega) ea et2 with ⟨e2, he2, h2⟩ | ⟨ra, ht2, hf2, h32, h2⟩
    · obtain ⟨m, hm⟩ := hm [] mid_nil
      rw [h1, Option.bind_some, h2, Option.bind_some, hm, Option.bind_some, if_pos (by simpa using he)]
    · obtain ⟨m, hm⟩ := hm _ (scan_mid ra ht2 ma hb2 1 h32)
      rw [h1, Option.bind_some, h2, Option.bind_some, hm, Option.bind_some, if_pos (by simpa using he)]
  · have mS1 := scan_mid ra ht1 ma hb1 0 h31
    rcases scan_all (t := t2) 1 (by omega) ea et2 with ⟨e2, he2, h2⟩ | ⟨_, ht2, hf2, h32, h2⟩
    · obtain ⟨m, hm, _⟩ := merge_tot mS1 mid_nil
      rw [h1, Option.bind_some, h2, Option.bind_some, hm, Option.bind_some, if_neg (by simp), if_pos (by simpa using he2)]
    · have mS2 := scan_mid ra ht2 ma hb2 1 h32
      obtain ⟨S1, hS1⟩ : ∃ S, S = (mergeP a t1).map (outP 0) := ⟨_, rfl⟩
      obtain ⟨C1, hC1⟩ : ∃ C, C = ((mergeP a t1).filter ch).map (·.2.1) := ⟨_, rfl⟩
      obtain ⟨S2, hS2⟩ : ∃ S, S = (mergeP a t2).map (outP 1) := ⟨_, rfl⟩
      obtain ⟨C2, hC2⟩ : ∃ C, C = ((mergeP a t2).filter ch).map (·.2.1) := ⟨_, rfl⟩
      have sa1 := fun q => scan_at ra ht1 0 hf1 q
      have sa2 := fun q => scan_at ra ht2 1 hf2 q
      have hl1 : C1.length ≤ 32 := by rw [hC1, List.length_map]; exact Nat.le_trans (List.length_filter_le _ _) h31
      have hl2 : C2.length ≤ 32 := by rw [hC2, List.length_map]; exact Nat.le_trans (List.length_filter_le _ _) h32
      have hlen1 : a.length ≤ S1.length := by rw [hS1, List.length_map]; exact (merge_len a t1).1
      rw [← hS1, ← hC1] at sa1 h1
      rw [← hS2, ← hC2] at sa2 h2
      rw [← hS1] at mS1
      rw [← hS2] at mS2
      obtain ⟨m, hm, hgood⟩ := merge_tot mS1 mS2
      rw [h1, Option.bind_some, h2, Option.bind_some, hm, Option.bind_some, if_neg (by simp), if_neg (by simp)]
      by_cases hz : m.2.2 = 0
      · rw [if_neg (by simpa using hz)]
        obtain ⟨r1, r2, hmay, rfl⟩ := hgood hz
        have hR := mrg_right mS1 mS2 r1 r2 hmay
        have hRl := hR.len
        have hcl := cnf_len S1 S2 mS1 mS2
        have T1 := treeX_fwd hb1 ht1
        have T2 := treeX_fwd hb2 ht2
        dsimp only
        rw [right_back hR, Option.bind_some, if_neg (by simp)]
        refine loop_true (mrg S1 S2).length (by omega) (fun again => ?_) fun i hi again hg => ?_
        · have hge : a.length ≤ (mrg S1 S2).length := by
            have h4 := up_sub_len (a := S1.map (·.1)) (b := keysL S1 S2) (show Up (S1.map (·.1)) from List.pairwise_map.2 (RightS.asc r1)) (up_keys _ _) fun q hq => by
              obtain ⟨e, he, rfl⟩ := List.mem_map.1 hq
              exact (mem_keys _ _ _).2 (.inl ⟨e, he, rfl⟩)
            rw [List.length_map] at h4
            unfold mrg
            rw [List.length_map]
            omega
          rw [if_neg (by simp), if_pos rfl, if_pos (by simp; omega), sorted_ok (by omega) (fun q hq => ?_) (up_cnf S1 S2)]
          · rfl
          · obtain ⟨x, y, g1, _, _⟩ := mem_cnf.1 hq
            obtain ⟨h5, rfl⟩ := getL_some g1
            exact (r1.ok x h5).path
        · obtain ⟨e, hee⟩ : ∃ e, e = (mrg S1 S2)[i] := ⟨_, rfl⟩
          have hem : e ∈ mrg S1 S2 := by rw [hee]; exact List.getElem_mem hi
          have hge := getL_mem (asc_mrg S1 S2) hem
          have sd := side_ok ra.ok (sa1 e.1) (sa2 e.1) hge
          have F1 : law10_has (C1, e.1) = some (decide (e.1 ∈ C1)) := has_mem (by omega) (by simp)
          have F2 : law10_has (C2, e.1) = some (decide (e.1 ∈ C2)) := has_mem (by omega) (by simp)
          have F3 : law10_has (cnf S1 S2, e.1) = some (decide (e.1 ∈ cnf S1 S2)) := has_mem (by omega) (by simp)
          have G1 := get_ok hb1 T1 e.1
          have G2 := get_ok hb2 T2 e.1
          obtain ⟨b1, hb1e⟩ : ∃ b, b = decide (e.1 ∈ C1) := ⟨_, rfl⟩
          obtain ⟨b2, hb2e⟩ : ∃ b, b = decide (e.1 ∈ C2) := ⟨_, rfl⟩
          obtain ⟨bc, hbce⟩ : ∃ b, b = decide (e.1 ∈ cnf S1 S2) := ⟨_, rfl⟩
          rw [← hb1e] at F1 sd
          rw [← hb2e] at F2 sd
          rw [← hbce] at F3 sd
          have hag : b1 = false → b2 = false → recon_Agree (mrg S1 S2, (a, e.1)) = some true := fun h5 h6 => agree_ok hR ra (by rw [hge, sd.own h5 h6])
          have c1 : ¬ (b1 = false ∧ b2 = true) → chk (mrg S1 S2) a e.1 b1 b2 again (i : Int) ((getT t1 e.1).getD [], (getT t1 e.1).isSome) = some true := fun h => chk_ok hi (by omega) (by rw [← hee]; exact (sd.mine h).1) (by rw [← hee]; exact (sd.mine h).2) hag hg
          have c2 : b1 = false ∧ b2 = true → chk (mrg S1 S2) a e.1 b1 b2 again (i : Int) ((getT t2 e.1).getD [], (getT t2 e.1).isSome) = some true := fun h => chk_ok hi (by omega) (by rw [← hee]; exact (sd.other h).1) (by rw [← hee]; exact (sd.other h).2) hag hg
          have hcf := sd.conf
          rw [if_pos (by simp; omega), ixL_nat hi, ← hee, F1, Option.bind_some, F2, Option.bind_some, G1, Option.bind_some, G2, Option.bind_some]
          dsimp only
          by_cases hd : ((getT t1 e.1).getD [] == (getT t2 e.1).getD []) = true
          · have hdd : (getT t1 e.1).getD [] = (getT t2 e.1).getD [] := by simpa using hd
            have hq : (!decide (getT t1 e.1 = getT t2 e.1)) = !((getT t1 e.1).isSome == (getT t2 e.1).isSome) := by
              congr 1
              cases hx : getT t1 e.1 with
              | none => cases hy : getT t2 e.1 <;> simp
              | some u =>
                cases hy : getT t2 e.1 with
                | none => simp
                | some v =>
                  rw [hx, hy] at hdd
                  have : u = v := hdd
                  subst this
                  simp
            rw [if_pos hd, F3, Option.bind_some]
            cases b1 with
            | true =>
              rw [if_pos rfl]
              cases b2 with
              | true =>
                rw [if_pos rfl, if_neg (by rw [hcf, hq]; simp), if_pos rfl, if_neg (by simp)]
                exact c1 (by simp)
              | false =>
                rw [if_neg (by simp), if_neg (by rw [hcf]; simp), if_neg (by simp)]
                exact c1 (by simp)
            | false =>
              rw [if_neg (by simp), if_neg (by rw [hcf]; simp)]
              cases b2 with
              | true =>
                rw [if_pos rfl, if_pos (by rfl)]
                exact c2 (by simp)
              | false =>
                rw [if_neg (by simp)]
                exact c1 (by simp)
          · have hne : ¬ getT t1 e.1 = getT t2 e.1 := fun h => hd (by rw [h]; simp)
            rw [if_neg hd, F3, Option.bind_some]
            cases b1 with
            | true =>
              rw [if_pos rfl]
              cases b2 with
              | true =>
                rw [if_pos rfl, if_neg (by rw [hcf, decide_eq_false hne]; simp), if_pos rfl, if_neg (by simp)]
                exact c1 (by simp)
              | false =>
                rw [if_neg (by simp), if_neg (by rw [hcf]; simp), if_neg (by simp)]
                exact c1 (by simp)
            | false =>
              rw [if_neg (by simp), if_neg (by rw [hcf]; simp)]
              cases b2 with
              | true =>
                rw [if_pos rfl, if_pos (by rfl)]
                exact c2 (by simp)
              | false =>
                rw [if_neg (by simp)]
                exact c1 (by simp)
      · rw [if_pos (by simpa using hz)]
end Go.Proofs.W.Q10
