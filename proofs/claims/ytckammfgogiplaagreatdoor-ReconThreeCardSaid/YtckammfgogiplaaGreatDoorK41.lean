/- ReconTurned, ReconThree: plain laws. -/
import Derived.Test.YtckammfgogiplaaGreatDoorK39
import Derived.Test.YtckammfgogiplaaGreatDoorK40
namespace Go.Proofs.W.Q10
open Go Go.Proofs.V Go.Proofs.W.Q9
set_option linter.unusedVariables false
set_option linter.unusedSimpArgs false
theorem getL_path {a : List En} {q : List UInt8} {e : En} (h : getL a q = some e) : e.1 = q := (getL_some h).2
theorem cnf_len (a b : List En) (ha : Mid a) (hb : Mid b) : (cnf a b).length ≤ 128 := by
  have h1 := keys_len a b
  have h2 := ha.n
  have h3 := hb.n
  unfold cnf
  have := List.length_filter_le (fun q => (pick a b q).2) (keysL a b)
  omega
theorem mrg_len (a b : List En) (ha : Mid a) (hb : Mid b) : (mrg a b).length ≤ 128 := by
  have h1 := keys_len a b
  have h2 := ha.n
  have h3 := hb.n
  unfold mrg
  rw [List.length_map]
  omega
end Go.Proofs.W.Q10
namespace Go.Proofs.W.Q10
open Go Go.Proofs.V Go.Proofs.W.Q9
set_option linter.unusedVariables false
set_option linter.unusedSimpArgs false
theorem val_assoc {V : Type} (vx vy vz : V) (x y z : Int × Int)
    (n1 : ltC x y ∨ ltC y x ∨ vx = vy) (n2 : ltC y z ∨ ltC z y ∨ vy = vz) (n3 : ltC x z ∨ ltC z x ∨ vx = vz) (n4 : ltC (joinC x y) z ∨ ltC z (joinC x y) ∨ (if ltC x y then vy else vx) = vz) :
    (if ltC (joinC x y) z then vz else if ltC x y then vy else vx) = (if ltC x (joinC y z) then (if ltC y z then vz else vy) else vx) := by
  obtain ⟨x1, x2⟩ := x
  obtain ⟨y1, y2⟩ := y
  obtain ⟨z1, z2⟩ := z
  have hd : ∀ a b c d : Int, ltC (a, b) (c, d) ↔ (a ≤ c ∧ b ≤ d) ∧ ¬ (a = c ∧ b = d) := fun a b c d => Iff.rfl
  have hj : ∀ a b c d : Int, joinC (a, b) (c, d) = (max a c, max b d) := fun a b c d => rfl
  simp only [hj] at n1 n2 n3 n4 ⊢
  by_cases a : ltC (max x1 y1, max x2 y2) (z1, z2)
  · rw [if_pos a]
    rw [hd] at a
    rw [if_pos (by rw [hd]; omega), if_pos (by rw [hd]; omega)]
  · rw [if_neg a]
    by_cases b : ltC (x1, x2) (y1, y2)
    · rw [if_pos b] at n4 ⊢
      have b' := (hd _ _ _ _).1 b
      rw [if_pos (by rw [hd]; omega)]
      by_cases c : ltC (y1, y2) (z1, z2)
      · rw [if_pos c]
        rcases n4 with n | n | n
        · exact absurd n a
        · rw [hd] at n c; omega
        · exact n
      · rw [if_neg c]
    · rw [if_neg b] at n4 ⊢
      by_cases c : ltC (x1, x2) (max y1 z1, max y2 z2)
      · rw [if_pos c]
        by_cases d : ltC (y1, y2) (z1, z2)
        · rw [if_pos d]
          rcases n4 with n | n | n
          · exact absurd n a
          · rcases n3 with m | m | m
            · rw [hd] at *; omega
            · rw [hd] at *; omega
            · exact m
          · exact n
        · rw [if_neg d]
          rcases n1 with n | n | n
          · exact absurd n b
          · rcases n2 with m | m | m
            · exact absurd m d
            · rw [hd] at *; omega
            · rcases n3 with k | k | k
              · rw [hd] at *; omega
              · rw [hd] at *; omega
              · exact k.trans m.symm
          · exact n
      · rw [if_neg c]
theorem joinC_assoc (x y z : Int × Int) : joinC (joinC x y) z = joinC x (joinC y z) := by
  unfold joinC
  refine Prod.ext ?_ ?_ <;> (dsimp only; omega)
theorem come_assoc {x y z : En} (h1 : x.1 = y.1) (h2 : y.1 = z.1) (n1 : (comeP x y).2 = false) (n2 : (comeP y z).2 = false) (n3 : (comeP x z).2 = false) (n4 : (comeP (comeP x y).1 z).2 = false) (n5 : (comeP x (comeP y z).1).2 = false) :
    (comeP (comeP x y).1 z).1 = (comeP x (comeP y z).1).1 := by
  have e1 := come_nc h1 n1
  have e2 := come_nc h2 n2
  obtain ⟨r, hr⟩ : ∃ r, r = (comeP x y).1 := ⟨_, rfl⟩
  obtain ⟨t, ht⟩ : ∃ t, t = (comeP y z).1 := ⟨_, rfl⟩
  rw [← hr] at e1 n4 ⊢
  rw [← ht] at e2 n5 ⊢
  have r1 : r.1 = x.1 := by rw [e1]
  have t1 : t.1 = y.1 := by rw [e2]
  have rc : r.2.2.2 = joinC x.2.2.2 y.2.2.2 := by rw [e1]
  have tc : t.2.2.2 = joinC y.2.2.2 z.2.2.2 := by rw [e2]
  have rv : valV r = if ltC x.2.2.2 y.2.2.2 then valV y else valV x := by rw [e1]; rfl
  have tv : valV t = if ltC y.2.2.2 z.2.2.2 then valV z else valV y := by rw [e2]; rfl
  have i4 := come_iff.1 n4
  rw [rc, rv] at i4
  have hv := val_assoc (valV x) (valV y) (valV z) _ _ _ (come_iff.1 n1) (come_iff.1 n2) (come_iff.1 n3) i4
  rw [come_nc (r1.trans (h1.trans h2)) n4, come_nc (h1.trans t1.symm) n5, r1, rc, tc, rv, tv, hv, joinC_assoc]
theorem cnf_none {a b : List En} (h : cnf a b = []) {q : List UInt8} {x y : En} (h1 : getL a q = some x) (h2 : getL b q = some y) : (comeP x y).2 = false := by
  cases k : (comeP x y).2 with
  | false => rfl
  | true =>
    have := mem_cnf.2 ⟨x, y, h1, h2, k⟩
    rw [h] at this
    cases this
theorem mrg_assoc {a b c : List En} (n1 : cnf a b = []) (n2 : cnf b c = []) (n3 : cnf a c = []) (n4 : cnf (mrg a b) c = []) (n5 : cnf a (mrg b c) = []) : mrg (mrg a b) c = mrg a (mrg b c) := by
  refine asc_ext (asc_mrg _ _) (asc_mrg _ _) fun q => ?_
  have k4 : ∀ x y, getL (mrg a b) q = some x → getL c q = some y → (comeP x y).2 = false := fun x y h1 h2 => cnf_none n4 h1 h2
  have k5 : ∀ x y, getL a q = some x → getL (mrg b c) q = some y → (comeP x y).2 = false := fun x y h1 h2 => cnf_none n5 h1 h2
  rw [getL_mrg] at k4 k5
  rw [getL_mrg (mrg a b) c, getL_mrg a (mrg b c), getL_mrg, getL_mrg]
  cases h1 : getL a q with
  | none => cases h2 : getL b q <;> cases h3 : getL c q <;> rfl
  | some x =>
    cases h2 : getL b q with
    | none => cases h3 : getL c q <;> rfl
    | some y =>
      cases h3 : getL c q with
      | none => rfl
      | some z =>
        rw [h1, h2, h3] at k4
        rw [h1, h2, h3] at k5
        have := come_assoc ((getL_path h1).trans (getL_path h2).symm) ((getL_path h2).trans (getL_path h3).symm) (cnf_none n1 h1 h2) (cnf_none n2 h2 h3) (cnf_none n3 h1 h3) (k4 _ _ rfl rfl) (k5 _ _ rfl rfl)
        simp [joinO, this]
theorem wrap_add {a b : Nat} (ha : a ≤ 1000) (hb : b ≤ 1000) : IntKind.wrap .i64 ((a : Int) + (b : Int)) = ((a + b : Nat) : Int) := by rw [wrapI (by omega) (by omega)]; omega
theorem three_ok (x : List En × (List En × List En)) : law10_ReconThree x = some true := by
  obtain ⟨a, b, c⟩ := x
  unfold law10_ReconThree
  dsimp only
  rw [small_ok, Option.bind_some, few9_ok, Option.bind_some, few9_ok, Option.bind_some, few9_ok, Option.bind_some]
  cases hf : (decide (a.length ≤ 60) && a.all okEn) with
  | false => rfl
  | true =>
  rw [if_neg (by simp)]
  cases hg : (decide (b.length ≤ 60) && b.all okEn) with
  | false => rfl
  | true =>
  rw [if_neg (by simp)]
  cases hh : (decide (c.length ≤ 60) && c.all okEn) with
  | false => rfl
  | true =>
  rw [if_neg (by simp)]
  have ma := (few_small hf).mid
  have mb := (few_small hg).mid
  have mc := (few_small hh).mid
  have tot : ∀ {p q : List En}, Mid p → Mid q → ∃ m, recon_Merge (p, q) = some m ∧ (m.2.2 = 0 → RightS p ∧ RightS q ∧ mayP (mrg p q) = 0 ∧ m = (mrg p q, (cnf p q, 0))) := fun hp hq => by
    rcases merge_all hp hq with ⟨_, h⟩ | ⟨_, _, hm, h⟩ | ⟨h1, h2, hm, h⟩
    · exact ⟨_, h, fun e => by cases e⟩
    · exact ⟨_, h, fun e => absurd e hm⟩
    · exact ⟨_, h, fun _ => ⟨h1, h2, hm, rfl⟩⟩
  obtain ⟨m1, e1, g1⟩ := tot ma mb
  obtain ⟨m2, e2, g2⟩ := tot mb mc
  obtain ⟨m3, e3, g3⟩ := tot ma mc
  rw [e1, Option.bind_some, e2, Option.bind_some, e3, Option.bind_some]
  split
  · rfl
  rename_i z1
  split
  · rfl
  rename_i z2
  split
  · rfl
  rename_i z3
  obtain ⟨ra, rb, y1, rfl⟩ := g1 (by simpa using z1)
  obtain ⟨_, rc, y2, rfl⟩ := g2 (by simpa using z2)
  obtain ⟨_, _, y3, rfl⟩ := g3 (by simpa using z3)
  dsimp only
  have l1 := cnf_len a b ma mb
  have l2 := cnf_len b c mb mc
  have l3 := cnf_len a c ma mc
  rw [wrap_add (by omega) (by omega), wrap_add (by omega) (by omega)]
  split
  · rfl
  rename_i z4
  have z4 : (cnf a b).length + (cnf b c).length + (cnf a c).length = 0 := by rw [bne_iff_ne, ne_eq, Decidable.not_not] at z4; omega
  have n1 : cnf a b = [] := List.eq_nil_of_length_eq_zero (by omega)
  have n2 : cnf b c = [] := List.eq_nil_of_length_eq_zero (by omega)
  have n3 : cnf a c = [] := List.eq_nil_of_length_eq_zero (by omega)
  have mab := mrg_mid ma mb y1
  have mbc := mrg_mid mb mc y2
  obtain ⟨m4, e4, g4⟩ := tot mab mc
  obtain ⟨m5, e5, g5⟩ := tot ma mbc
  rw [e4, Option.bind_some, e5, Option.bind_some]
  split
  · rfl
  rename_i z5
  split
  · rfl
  rename_i z6
  obtain ⟨rab, _, y4, rfl⟩ := g4 (by simpa using z5)
  obtain ⟨_, rbc, y5, rfl⟩ := g5 (by simpa using z6)
  dsimp only
  have l4 := cnf_len (mrg a b) c mab mc
  have l5 := cnf_len a (mrg b c) ma mbc
  rw [wrap_add (by omega) (by omega)]
  split
  · rfl
  rename_i z7
  have z7 : (cnf (mrg a b) c).length + (cnf a (mrg b c)).length = 0 := by rw [bne_iff_ne, ne_eq, Decidable.not_not] at z7; omega
  have n4 : cnf (mrg a b) c = [] := List.eq_nil_of_length_eq_zero (by omega)
  have n5 : cnf a (mrg b c) = [] := List.eq_nil_of_length_eq_zero (by omega)
  rw [if_pos rfl, mrg_assoc n1 n2 n3 n4 n5, same_refl _ (by have := mrg_len a (mrg b c) ma mbc; omega)]
  rfl
end Go.Proofs.W.Q10
