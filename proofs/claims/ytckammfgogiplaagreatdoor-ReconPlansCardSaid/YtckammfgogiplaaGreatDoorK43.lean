/- ReconTurned, ReconThree: plain laws. -/
import Derived.Test.YtckammfgogiplaaGreatDoorK41
import Derived.Test.YtckammfgogiplaaGreatDoorK42
namespace Go.Proofs.W.Q10
open Go Go.Proofs.V Go.Proofs.W.Q9
set_option linter.unusedVariables false
set_option linter.unusedSimpArgs false
theorem come_up {r x : En} (hp : r.1 = x.1) (hc : x.2.2.2.1 ≤ r.2.2.2.1 ∧ x.2.2.2.2 ≤ r.2.2.2.2) (hv : ltC x.2.2.2 r.2.2.2 ∨ valV r = valV x) : comeP r x = (r, false) := by
  have h : (comeP r x).2 = false := come_iff.2 (by rcases hv with h | h; exact .inr (.inl h); exact .inr (.inr h))
  have h1 := come_nc hp h
  rw [if_neg (by unfold ltC; omega)] at h1
  have hj : joinC r.2.2.2 x.2.2.2 = r.2.2.2 := by
    unfold joinC
    refine Prod.ext ?_ ?_ <;> (dsimp only; omega)
  rw [hj] at h1
  refine Prod.ext ?_ h
  rw [h1]; rfl
theorem cnf_len (a b : List En) (ha : Mid a) (hb : Mid b) : (cnf a b).length ≤ 128 := by
  have h1 := keys_len a b
  have h2 := ha.n
  have h3 := hb.n
  unfold cnf
  have := List.length_filter_le (fun q => (pick a b q).2) (keysL a b)
  omega
theorem mrg_len (a b : List En) (ha : Mid a) (hb : Mid b) : (mrg a b).length ≤ 128 := by
  have h1 := keys_len a b
  have h2 := ha.n
  have h3 := hb.n
  unfold mrg
  rw [List.length_map]
  omega
end Go.Proofs.W.Q10
namespace Go.Proofs.W.Q10
open Go Go.Proofs.V Go.Proofs.W.Q9
set_option linter.unusedVariables false
set_option linter.unusedSimpArgs false
theorem contS_ok {l : List (List UInt8)} {q : List UInt8} (hl : l.length < 1000000000) : slices_Contains_string (l, q) = some (l.any fun x => q == x) := by
  unfold slices_Contains_string
  have : slices_Index_string (l, q) = some (idxP (fun x => q == x) l 0) := by
    unfold slices_Index_string
    exact index_loop l (fun x => some (q == x)) (fun x => q == x) hl fun x hx => rfl
  show (slices_Index_string (l, q)).bind _ = _
  rw [this]
  show some _ = _
  rw [idxP_any]
theorem contS_mem {l : List (List UInt8)} {q : List UInt8} (hl : l.length < 1000000000) {b : Bool} (h : b = true ↔ q ∈ l) : slices_Contains_string (l, q) = some b := by
  rw [contS_ok hl]
  congr 1
  cases b with
  | true =>
    rw [List.any_eq_true]
    exact ⟨q, h.1 rfl, by simp⟩
  | false =>
    rw [List.any_eq_false]
    intro x hx
    simp only [beq_iff_eq]
    rintro rfl
    have := h.2 hx
    cases this
theorem find_cases {l : List En} (hR : RightS l) (q : List UInt8) : (getL l q = none ∧ scan_Find (l, q) = some (-1)) ∨ ∃ k, ∃ hk : k < l.length, l[k].1 = q ∧ getL l q = some l[k] ∧ scan_Find (l, q) = some (k : Int) := by
  have hl := hR.len
  have ha := RightS.asc hR
  cases hg : getL l q with
  | none => exact .inl ⟨rfl, find_none (right_back hR) (by omega) (getL_none.1 hg)⟩
  | some e =>
    obtain ⟨he, hq⟩ := getL_some hg
    obtain ⟨k, hk, rfl⟩ := List.getElem_of_mem he
    refine .inr ⟨k, hk, hq, rfl, ?_⟩
    rw [← hq]
    exact find_some (right_back hR) (by omega) hk fun i hi hne => asc_ne ha hi hk hne
/-- An entry, settled. -/
def newE (p : List UInt8) (take : Bool) (n : Int) (e1 e2 : En) : En := (p, ((if take then e2.2.1 else e1.2.1), ((if take then e2.2.2.1 else e1.2.2.1), tickZ (joinC e1.2.2.2 e2.2.2.2) n)))
inductive SettleR (a b : List En) (p : List UInt8) (take : Bool) (n : Int) : Prop
  | bad (e : Int) (he : e ≠ 0) (h : recon_Settle (a, (b, (p, (take, n)))) = some ([], e))
  | good (ra : RightS a) (rb : RightS b) (hm : mayP (mrg a b) = 0) (hp : p ∈ cnf a b) (k1 k2 : Nat) (h1 : k1 < a.length) (h2 : k2 < b.length) (p1 : a[k1].1 = p) (p2 : b[k2].1 = p) (f1 : scan_Find (a, p) = some (k1 : Int)) (f2 : scan_Find (b, p) = some (k2 : Int))
      (hc : ¬ ((tickZ (joinC a[k1].2.2.2 b[k2].2.2.2) n).1 = (joinC a[k1].2.2.2 b[k2].2.2.2).1 ∧ (tickZ (joinC a[k1].2.2.2 b[k2].2.2.2) n).2 = (joinC a[k1].2.2.2 b[k2].2.2.2).2)) (hs : mayP (a.set k1 (newE p take n a[k1] b[k2])) = 0)
      (h : recon_Settle (a, (b, (p, (take, n)))) = some (a.set k1 (newE p take n a[k1] b[k2]), 0))
theorem settle_all {a b : List En} (ha : Mid a) (hb : Mid b) {p : List UInt8} (hp : p.length ≤ 1000000) (take : Bool) (n : Int) : SettleR a b p take n := by
  have hu : recon_Settle (a, (b, (p, (take, n)))) = recon_Settle (a, (b, (p, (take, n)))) := rfl
  rcases merge_all ha hb with ⟨_, hm⟩ | ⟨_, _, h0, hm⟩ | ⟨ra, rb, h0, hm⟩
  · refine .bad 1 (by decide) ?_
    unfold recon_Settle
    dsimp only
    rw [hm]; rfl
  · refine .bad _ h0 ?_
    unfold recon_Settle
    dsimp only
    rw [hm, Option.bind_some, if_neg (by simpa using h0)]
  · have hcl := cnf_len a b ha hb
    by_cases hin : p ∈ cnf a b
    · obtain ⟨x, y, g1, g2, hxy⟩ := mem_cnf.1 hin
      rcases find_cases ra p with ⟨q1, _⟩ | ⟨k1, h1, p1, q1, f1⟩
      · rw [g1] at q1; cases q1
      rcases find_cases rb p with ⟨q2, _⟩ | ⟨k2, h2, p2, q2, f2⟩
      · rw [g2] at q2; cases q2
      have c1 := (ra.ok _ (List.getElem_mem h1)).cl
      have c2 := (rb.ok _ (List.getElem_mem h2)).cl
      have key : recon_Settle (a, (b, (p, (take, n)))) = (if ((tickZ (joinC a[k1].2.2.2 b[k2].2.2.2) n).1 = (joinC a[k1].2.2.2 b[k2].2.2.2).1 ∧ (tickZ (joinC a[k1].2.2.2 b[k2].2.2.2) n).2 = (joinC a[k1].2.2.2 b[k2].2.2.2).2) then some ([], 2) else if mayP (a.set k1 (newE p take n a[k1] b[k2])) = 0 then some (a.set k1 (newE p take n a[k1] b[k2]), 0) else some ([], mayP (a.set k1 (newE p take n a[k1] b[k2])))) := by
        unfold recon_Settle
        dsimp only
        rw [hm, Option.bind_some, if_pos (by rfl), contS_mem (b := true) (by omega) ⟨fun _ => hin, fun _ => rfl⟩, Option.bind_some, if_pos rfl, f1, Option.bind_some, f2, Option.bind_some, if_neg (by omega), if_neg (by omega), Int.toNat_natCast, Int.toNat_natCast, List.getElem?_eq_getElem h1, Option.bind_some, List.getElem?_eq_getElem h2, Option.bind_some, joined_ok c1 c2, Option.bind_some]
        dsimp only
        rw [clockTick_ok (join_ok' c1 c2)]
        have hpl : ∀ e ∈ a.set k1 (newE p take n a[k1] b[k2]), e.1.length ≤ 1000000 := fun e he => by
          rcases List.mem_or_eq_of_mem_set he with he | rfl
          · exact ha.p e he
          · exact hp
        rw [show (p, ((if take then b[k2].2.1 else a[k1].2.1), ((if take then b[k2].2.2.1 else a[k1].2.2.1), tickZ (joinC a[k1].2.2.2 b[k2].2.2.2) n))) = newE p take n a[k1] b[k2] from rfl, may_ok hpl (by rw [List.length_set]; have := ha.n; omega), Option.bind_some]
        split
        · rfl
        · split
          · rename_i h; rw [if_pos (by simpa using h)]
          · rename_i h; rw [if_neg (by simpa using h)]
      split at key
      · exact .bad 2 (by decide) key
      · rename_i hne
        split at key
        · rename_i hz
          exact .good ra rb h0 hin k1 k2 h1 h2 p1 p2 f1 f2 hne hz key
        · rename_i hz
          exact .bad _ hz key
    · refine .bad 3 (by decide) ?_
      unfold recon_Settle
      dsimp only
      rw [hm, Option.bind_some, if_pos (by rfl), contS_mem (b := false) (by omega) ⟨fun h => (by cases h), fun h => absurd h hin⟩]
      rfl
theorem tick_lt {c : Int × Int} (h : ClOk c) (n : Int) (hf : ¬ ((tickZ c n).1 = c.1 ∧ (tickZ c n).2 = c.2)) : ltC c (tickZ c n) := by
  obtain ⟨a, b, rfl, ha, hb⟩ := h.nat
  cases hn : oddB n with
  | true =>
    have e : tickZ ((a : Int), (b : Int)) n = ((a : Int), ((min (b + 1) 1073741824 : Nat) : Int)) := by simp [tickZ, tickN, hn]
    rw [e] at hf ⊢
    unfold ltC
    dsimp only at hf ⊢
    omega
  | false =>
    have e : tickZ ((a : Int), (b : Int)) n = (((min (a + 1) 1073741824 : Nat) : Int), (b : Int)) := by simp [tickZ, tickN, hn]
    rw [e] at hf ⊢
    unfold ltC
    dsimp only at hf ⊢
    omega
section
variable {a b : List En} {p : List UInt8} {take : Bool} {n : Int} {k1 k2 : Nat}
theorem set_getL (ha : AscE a) (h1 : k1 < a.length) {s : En} (hs : s.1 = a[k1].1) (q : List UInt8) : getL (a.set k1 s) q = if q = s.1 then some s else getL a q := by
  have hasc : AscE (a.set k1 s) := by
    have : (a.set k1 s).map (·.1) = a.map (·.1) := by
      rw [List.map_set, hs]
      have := List.set_getElem_self (show k1 < (a.map (·.1)).length by rw [List.length_map]; exact h1)
      rw [List.getElem_map] at this
      exact this
    unfold AscE Asc at ha ⊢
    have h2 : (a.map (·.1)).Pairwise Les := List.pairwise_map.2 ha
    rw [← this] at h2
    exact List.pairwise_map.1 h2
  by_cases hq : q = s.1
  · rw [if_pos hq, hq]
    exact getL_mem hasc (List.mem_iff_getElem.2 ⟨k1, by rw [List.length_set]; exact h1, by simp⟩)
  · rw [if_neg hq]
    cases hg : getL a q with
    | none =>
      refine getL_none.2 fun e he => ?_
      rcases List.mem_or_eq_of_mem_set he with he | rfl
      · exact getL_none.1 hg e he
      · exact fun e => hq e.symm
    | some e =>
      obtain ⟨he, hqe⟩ := getL_some hg
      obtain ⟨i, hi, rfl⟩ := List.getElem_of_mem he
      have hik : i ≠ k1 := by
        rintro rfl
        exact hq (hqe.symm.trans hs.symm)
      refine (getL_iff hasc).2 ⟨List.mem_iff_getElem.2 ⟨i, by rw [List.length_set]; exact hi, ?_⟩, hqe⟩
      rw [List.getElem_set_ne (fun e => hik e.symm)]
theorem set_asc (ha : AscE a) (h1 : k1 < a.length) {s : En} (hs : s.1 = a[k1].1) : AscE (a.set k1 s) := by
  have : (a.set k1 s).map (·.1) = a.map (·.1) := by
    rw [List.map_set, hs]
    have := List.set_getElem_self (show k1 < (a.map (·.1)).length by rw [List.length_map]; exact h1)
    rw [List.getElem_map] at this
    exact this
  unfold AscE Asc at ha ⊢
  have h2 : (a.map (·.1)).Pairwise Les := List.pairwise_map.2 ha
  rw [← this] at h2
  exact List.pairwise_map.1 h2
end
theorem newE_x {p : List UInt8} {take : Bool} {n : Int} {e1 e2 : En} (x1 : EnX e1) (x2 : EnX e2) (h : e1.1 = p) : EnX (newE p take n e1 e2) := by
  have hc := join_ok' x1.ok.cl x2.ok.cl
  unfold newE
  cases take with
  | true => exact ⟨⟨by rw [← h]; exact x1.ok.path, tickZ_ok hc n, tickZ_nz hc n, x2.ok.empty⟩, x2.d⟩
  | false => exact ⟨⟨by rw [← h]; exact x1.ok.path, tickZ_ok hc n, tickZ_nz hc n, x1.ok.empty⟩, x1.d⟩
/-- What Settle made, against the other side. -/
theorem settled {a b : List En} {p : List UInt8} {take : Bool} {n : Int} {k1 k2 : Nat} (ma : Mid a) (mb : Mid b) (ra : RightS a) (rb : RightS b) (hp : p ∈ cnf a b) (h1 : k1 < a.length) (h2 : k2 < b.length) (p1 : a[k1].1 = p) (p2 : b[k2].1 = p)
    (hc : ¬ ((tickZ (joinC a[k1].2.2.2 b[k2].2.2.2) n).1 = (joinC a[k1].2.2.2 b[k2].2.2.2).1 ∧ (tickZ (joinC a[k1].2.2.2 b[k2].2.2.2) n).2 = (joinC a[k1].2.2.2 b[k2].2.2.2).2)) (hs : mayP (a.set k1 (newE p take n a[k1] b[k2])) = 0) :
    ∃ S, S = a.set k1 (newE p take n a[k1] b[k2]) ∧ RightS S ∧ Mid S ∧ cnf S b = (cnf a b).erase p ∧ getL (mrg b S) p = getL S p := by
  refine ⟨_, rfl, ?_⟩
  have hsn : (newE p take n a[k1] b[k2]).1 = a[k1].1 := p1.symm
  have hasc := set_asc (RightS.asc ra) h1 hsn
  have hset := fun q => set_getL (RightS.asc ra) h1 hsn q
  obtain ⟨s, hse⟩ : ∃ s, s = newE p take n a[k1] b[k2] := ⟨_, rfl⟩
  rw [← hse] at hasc hset hs hsn ⊢
  have hsp : s.1 = p := hsn.trans p1
  rw [hsp] at hset
  have xa := right_x ra ma.p
  have xb := right_x rb mb.p
  have hpl : ∀ e ∈ a.set k1 s, e.1.length ≤ 1000000 := fun e he => by
    rcases List.mem_or_eq_of_mem_set he with he | rfl
    · exact ma.p e he
    · rw [hsn]; exact ma.p _ (List.getElem_mem h1)
  have hR : RightS (a.set k1 s) := right_of (by rw [List.length_set]; exact ra.len) hpl hasc (fun e he => by
    rcases List.mem_or_eq_of_mem_set he with he | rfl
    · exact xa e he
    · rw [hse]; exact newE_x (xa _ (List.getElem_mem h1)) (xb _ (List.getElem_mem h2)) p1) hs
  have hM : Mid (a.set k1 s) := ⟨by rw [List.length_set]; exact ma.n, hpl⟩
  have g2 : getL b p = some b[k2] := by
    have := getL_mem (RightS.asc rb) (List.getElem_mem h2)
    rw [p2] at this
    exact this
  have hlt : ltC b[k2].2.2.2 s.2.2.2 := by
    have hj := tick_lt (join_ok' (xa _ (List.getElem_mem h1)).ok.cl (xb _ (List.getElem_mem h2)).ok.cl) n hc
    have e : s.2.2.2 = tickZ (joinC a[k1].2.2.2 b[k2].2.2.2) n := by rw [hse]; rfl
    rw [e]
    unfold ltC at hj ⊢
    have : (joinC a[k1].2.2.2 b[k2].2.2.2).1 = max a[k1].2.2.2.1 b[k2].2.2.2.1 := rfl
    have : (joinC a[k1].2.2.2 b[k2].2.2.2).2 = max a[k1].2.2.2.2 b[k2].2.2.2.2 := rfl
    omega
  have hcome : comeP s b[k2] = (s, false) := come_up (hsp.trans p2.symm) (by unfold ltC at hlt; omega) (.inl hlt)
  refine ⟨hR, hM, ?_, ?_⟩
  · refine up_eq (up_cnf _ _) ((up_cnf a b).sublist List.erase_sublist) fun q => ?_
    rw [List.Nodup.mem_erase_iff (Up.nodup (up_cnf a b)), mem_cnf, mem_cnf]
    constructor
    · rintro ⟨x, y, g, g', hxy⟩
      rw [hset] at g
      by_cases hq : q = p
      · subst hq
        rw [if_pos rfl] at g
        rw [g2] at g'
        cases g; cases g'
        rw [hcome] at hxy
        cases hxy
      · rw [if_neg hq] at g
        exact ⟨hq, x, y, g, g', hxy⟩
    · rintro ⟨hq, x, y, g, g', hxy⟩
      exact ⟨x, y, by rw [hset, if_neg hq]; exact g, g', hxy⟩
  · rw [getL_mrg, hset, if_pos rfl, g2]
    have hcm := come_comm (hsp.trans p2.symm)
    rw [hcome] at hcm
    show some (comeP b[k2] s).1 = some s
    rw [← hcm.2 rfl]
end Go.Proofs.W.Q10
namespace Go.Proofs.W.Q10
open Go Go.Proofs.V Go.Proofs.W.Q9
set_option linter.unusedVariables false
set_option linter.unusedSimpArgs false
/-- A loop that ends by a measure. -/
theorem loop_meas {S R : Type} {step : (S → Option R) → S → Option R} (μ : S → Nat) (I : S → Prop) (r : Option R) (hstep : ∀ again s, I s → (∀ s', I s' → μ s' < μ s → again s' = r) → step again s = r) {s0 : S} (h0 : I s0) (hm : μ s0 < fuel) : fixS step fuel s0 = r := by
  rw [fixS_eq]
  have key : ∀ k s, I s → μ s < k → fixN step k s = r := by
    intro k
    induction k with
    | zero => intro s _ h; omega
    | succ k ih =>
      intro s hs h
      rw [fixN]
      exact hstep _ s hs fun s' hs' hlt => ih s' hs' (by omega)
  exact key fuel s0 h0 hm
theorem half_ok {R : Type} {n : Nat} (h : n < 4000000000000000000) (f : Int → Option R) : shG .shr .u64 (IntKind.wrap .u64 (IntKind.wrap .i64 (n : Int))) 1 f = f ((n / 2 : Nat) : Int) := by
  unfold shG
  rw [if_neg (by decide), wrapI (by omega) (by omega)]
  have e : IntKind.wrap .u64 (n : Int) = (n : Int) := by
    show (n : Int) % (2 ^ 64 : Int) = (n : Int)
    omega
  rw [e]
  congr 1
  show (n : Int).fdiv (2 ^ (Min.min (1 : Int).toNat 64)) = _
  have : (2 : Int) ^ (Min.min (1 : Int).toNat 64) = 2 := by decide
  rw [this, Int.fdiv_eq_ediv_of_nonneg _ (by decide)]
  omega
theorem cmp_lt : ∀ x y : List UInt8, decide (Lib.compareBytes x y < 0) = Op.bytesLess x y
  | [], [] => rfl
  | [], y :: ys => rfl
  | x :: xs, [] => rfl
  | x :: xs, y :: ys => by
    unfold Lib.compareBytes Op.bytesLess
    split
    · rename_i h; simp [h]
    · rename_i h
      split
      · rename_i h2
        have : x ≠ y := by rintro rfl; exact h h2
        simp [h, this]
      · rename_i h2
        have : x = y := UInt8.le_antisymm (UInt8.not_lt.1 h2) (UInt8.not_lt.1 h)
        subst this
        rw [cmp_lt xs ys]
        simp [UInt8.lt_irrefl]
theorem cmp_eq : ∀ x y : List UInt8, (Lib.compareBytes x y == 0) = (x == y)
  | [], [] => rfl
  | [], y :: ys => rfl
  | x :: xs, [] => rfl
  | x :: xs, y :: ys => by
    unfold Lib.compareBytes
    split
    · rename_i h
      have : x ≠ y := by rintro rfl; exact UInt8.lt_irrefl _ h
      simp [this]
    · rename_i h
      split
      · rename_i h2
        have : x ≠ y := by rintro rfl; exact h h2
        simp [this]
      · rename_i h2
        have : x = y := UInt8.le_antisymm (UInt8.not_lt.1 h2) (UInt8.not_lt.1 h)
        subst this
        rw [cmp_eq xs ys]
        simp
abbrev AscF (t : List Fi) : Prop := Asc (fun f : Fi => f.1) t
theorem place_ok {t : List Fi} (ht : AscF t) (hl : t.length ≤ 1000000) (q : List UInt8) : ∃ k : Nat, k ≤ t.length ∧ (∀ i, (hi : i < t.length) → (Op.bytesLess t[i].1 q = true ↔ i < k)) ∧ tree_place (t, q) = some ((k : Int), if h : k < t.length then t[k].1 == q else false) := by
  obtain ⟨k, hk⟩ : ∃ k, k = t.findIdx fun f => !Op.bytesLess f.1 q := ⟨_, rfl⟩
  have hkl : k ≤ t.length := by rw [hk]; exact List.findIdx_le_length
  have hless : ∀ i, (hi : i < t.length) → (Op.bytesLess t[i].1 q = true ↔ i < k) := by
    intro i hi
    constructor
    · intro h
      rcases Nat.lt_or_ge i k with h1 | h1
      · exact h1
      · exfalso
        have hk2 : k < t.length := by omega
        have h2 : (!Op.bytesLess t[k].1 q) = true := by
          have := List.findIdx_getElem (xs := t) (p := fun f => !Op.bytesLess f.1 q) (w := by rw [← hk]; exact hk2)
          simpa only [← hk] using this
        rcases Nat.lt_or_ge k i with h3 | h3
        · have h4 : Les t[k].1 t[i].1 := List.pairwise_iff_getElem.1 ht k i hk2 hi h3
          rw [Q9.less_trans h4 h] at h2
          cases h2
        · have : i = k := by omega
          subst this
          rw [h] at h2
          cases h2
    · intro h
      have := List.not_of_lt_findIdx (p := fun f : Fi => !Op.bytesLess f.1 q) (xs := t) (i := i) (by rw [← hk]; exact h)
      simpa using this
  refine ⟨k, hkl, hless, ?_⟩
  have h1 : ∀ f : Fi, tree_place_1 (f.1, (f.2, q)) = some (Lib.compareBytes f.1 q) := fun f => rfl
  have key : slices_BinarySearchFunc_string_tree_place_1 (t, q) = some ((k : Int), if h : k < t.length then t[k].1 == q else false) := by
    unfold slices_BinarySearchFunc_string_tree_place_1
    refine loop_meas (fun s => (s.2 - s.1).toNat) (fun s => ∃ lo hi : Nat, s = ((lo : Int), (hi : Int)) ∧ lo ≤ k ∧ k ≤ hi ∧ hi ≤ t.length) _ (fun again s hI ha => ?_) ⟨0, t.length, rfl, by omega, hkl, by omega⟩ (by unfold fuel; simp; omega)
    obtain ⟨lo, hi, rfl, hlo, hhi, hhl⟩ := hI
    dsimp only
    by_cases hlt : lo < hi
    · have e1 : ((lo : Int) + (hi : Int)) = ((lo + hi : Nat) : Int) := by omega
      rw [if_pos (by simp; omega), e1, half_ok (by omega)]
      have hm : (lo + hi) / 2 < t.length := by omega
      rw [wrapI (by omega) (by omega), ixL_nat hm, h1, Option.bind_some, cmp_lt]
      by_cases hc : Op.bytesLess t[(lo + hi) / 2].1 q = true
      · rw [if_pos hc]
        have := (hless _ hm).1 hc
        rw [wrap_succ (by omega)]
        exact ha _ ⟨(lo + hi) / 2 + 1, hi, rfl, by omega, hhi, hhl⟩ (by dsimp only; omega)
      · rw [if_neg hc]
        have : ¬ (lo + hi) / 2 < k := fun h => hc ((hless _ hm).2 h)
        exact ha _ ⟨lo, (lo + hi) / 2, rfl, hlo, by omega, by omega⟩ (by dsimp only; omega)
    · have : lo = k := by omega
      subst this
      rw [if_neg (by simp; omega)]
      by_cases h : lo < t.length
      · rw [if_pos (by simp; omega), ixL_nat h, h1, Option.bind_some, cmp_eq, dif_pos h]
      · rw [if_neg (by simp; omega), dif_neg h]
  unfold tree_place
  show (slices_BinarySearchFunc_string_tree_place_1 (t, q)).bind _ = _
  rw [key]
  rfl
/-- What a tree has at a path. -/
def getT (t : List Fi) (q : List UInt8) : Option (List UInt8) := (t.find? fun f => decide (f.1 = q)).map (·.2)
theorem getT_iff {t : List Fi} (ht : AscF t) {q d : List UInt8} : getT t q = some d ↔ (q, d) ∈ t := by
  unfold getT
  constructor
  · intro h
    obtain ⟨f, hf, rfl⟩ := Option.map_eq_some_iff.1 h
    have h1 := List.mem_of_find?_eq_some hf
    have h2 := List.find?_some hf
    have h2 : f.1 = q := by simpa using h2
    rw [← h2]; exact h1
  · intro h
    cases hf : t.find? fun f => decide (f.1 = q) with
    | none =>
      have := List.find?_eq_none.1 hf (q, d) h
      simp at this
    | some f =>
      have h1 := List.mem_of_find?_eq_some hf
      have h2 := List.find?_some hf
      have h2 : f.1 = q := by simpa using h2
      have := asc_inj ht h1 h (by exact h2)
      rw [this]; rfl
theorem getT_none {t : List Fi} {q : List UInt8} : getT t q = none ↔ ∀ f ∈ t, f.1 ≠ q := by
  unfold getT
  rw [Option.map_eq_none_iff, List.find?_eq_none]
  simp
theorem treeX_asc {t : List Fi} (h : TreeX t) : AscF t := asc_of _ t h.up
theorem findT_cases {t : List Fi} (hb : ∀ g ∈ t, g.1.length ≤ 1000000) (hR : TreeX t) (q : List UInt8) : (getT t q = none ∧ tree_Find (t, q) = some (-1)) ∨ ∃ k, ∃ hk : k < t.length, t[k].1 = q ∧ getT t q = some t[k].2 ∧ tree_Find (t, q) = some (k : Int) := by
  have hl := hR.len
  have ha := treeX_asc hR
  obtain ⟨k, hkl, hless, hp⟩ := place_ok ha (by omega) q
  have hn : (∀ f ∈ t, f.1 ≠ q) ∨ ∃ h : k < t.length, t[k].1 = q := by
    by_cases h : ∃ h : k < t.length, t[k].1 = q
    · exact .inr h
    · refine .inl fun f hf hq => h ?_
      obtain ⟨i, hi, rfl⟩ := List.getElem_of_mem hf
      have h1 : ¬ i < k := fun hik => by
        have := (hless i hi).2 hik
        rw [hq, less_irrefl] at this
        cases this
      have h2 : ¬ k < i := fun hki => by
        have h3 : Les t[k].1 t[i].1 := List.pairwise_iff_getElem.1 ha k i (by omega) hi hki
        rw [hq] at h3
        have := (hless k (by omega)).1 h3
        omega
      have : i = k := by omega
      subst this
      exact ⟨hi, hq⟩
  rcases hn with hn | ⟨hk, hq⟩
  · refine .inl ⟨getT_none.2 hn, ?_⟩
    unfold tree_Find
    dsimp only
    rw [hp, Option.bind_some]
    rw [if_neg]
    by_cases h : k < t.length
    · rw [dif_pos h]
      have := hn _ (List.getElem_mem h)
      simpa using this
    · rw [dif_neg h]; simp
  · refine .inr ⟨k, hk, hq, (getT_iff ha).2 (by rw [← hq]; exact List.getElem_mem hk), ?_⟩
    unfold tree_Find
    dsimp only
    rw [hp, Option.bind_some, if_pos (by rw [dif_pos hk, hq]; simp), treeX_back hb hR, Option.bind_some, if_pos rfl]
theorem contF_ok {l : List Fi} {g : Fi} (hl : l.length < 1000000000) : slices_Contains_File (l, (g.1, g.2)) = some (l.any fun f => (g.1 == f.1) && (g.2 == f.2)) := by
  unfold slices_Contains_File
  have : slices_Index_File (l, (g.1, g.2)) = some (idxP (fun f => (g.1 == f.1) && (g.2 == f.2)) l 0) := by
    unfold slices_Index_File
    refine loop_meas (fun s => l.length - s.2.2.toNat) (fun s => ∃ i : Nat, s = (g.1, (g.2, (i : Int))) ∧ i ≤ l.length ∧ idxP (fun f => (g.1 == f.1) && (g.2 == f.2)) l 0 = idxP (fun f => (g.1 == f.1) && (g.2 == f.2)) (l.drop i) i) _ (fun again s hI ha => ?_) ⟨0, rfl, by omega, rfl⟩ (by unfold fuel; dsimp only; omega)
    obtain ⟨i, rfl, hi, he⟩ := hI
    dsimp only
    by_cases h : i < l.length
    · rw [if_pos (by simp; omega), ixL_nat h, wrap_succ (by omega)]
      have hcons : ∀ (x : Fi) (l' : List Fi) (i : Nat), idxP (fun f : Fi => (g.1 == f.1) && (g.2 == f.2)) (x :: l') i = if ((g.1 == x.1) && (g.2 == x.2)) = true then (i : Int) else idxP (fun f : Fi => (g.1 == f.1) && (g.2 == f.2)) l' (i + 1) := fun _ _ _ => rfl
      rw [List.drop_eq_getElem_cons h, hcons] at he
      by_cases hc : ((g.1 == l[i].1) && (g.2 == l[i].2)) = true
      · rw [if_pos hc]
        rw [if_pos hc] at he
        rw [he]
      · rw [if_neg hc]
        rw [if_neg hc] at he
        exact ha _ ⟨i + 1, rfl, by omega, he⟩ (by dsimp only; omega)
    · have : i = l.length := by omega
      subst this
      rw [if_neg (by simp)]
      rw [List.drop_length] at he
      rw [he]; rfl
  show (slices_Index_File (l, (g.1, g.2))).bind _ = _
  rw [this]
  show some _ = _
  rw [idxP_any]
theorem fits40 {n : Nat} (h : n ≤ 600000000) : fitsB 40 (n : Int) = true := by
  unfold fitsB
  simp only [Int.toNat_natCast, Bool.and_eq_true, decide_eq_true_eq]
  omega
abbrev Ac := List UInt8 × (Bool × List UInt8)
def dropsP (t u : List Fi) : List Ac := (t.filter fun f => (getT u f.1).isNone).map fun f => (f.1, (false, []))
def putsP (t u : List Fi) : List Ac := (u.filter fun g => !t.any fun f => (g.1 == f.1) && (g.2 == f.2)).map fun g => (g.1, (true, g.2))
theorem plan_ok {t : List Fi} {b : List En} (hb : ∀ g ∈ t, g.1.length ≤ 1000000) (mb : Mid b) (ht : TreeX t) (rb : RightS b) : recon_Plan (t, b) = some (dropsP t (filesP b) ++ putsP t (filesP b), 0) := by
  have hT : scan_Tree b = some (filesP b) := by
    unfold scan_Tree
    rw [right_back rb, Option.bind_some, if_neg (by simp), files_ok b (by have := rb.len; omega)]
    rfl
  have hfb := files_paths mb.p
  have hF := treeX_fwd hfb rb.tree
  have hl1 := ht.len
  have hl2 := hF.len
  unfold recon_Plan
  dsimp only
  rw [treeX_back hb ht, Option.bind_some, if_neg (by simp), right_back rb, Option.bind_some, if_neg (by simp), hT, Option.bind_some]
  refine loop_run t.length (fun i s => s = (dropsP (t.take i) (filesP b), ([], (i : Int)))) _ (by omega) (fun again s hI => ?_) (fun i hi again s hI ha => ?_) rfl
  · subst hI
    dsimp only
    rw [if_neg (by simp), List.take_length]
    refine loop_run (filesP b).length (fun i s => s = (dropsP t (filesP b), (putsP t ((filesP b).take i), (i : Int)))) _ (by omega) (fun again s hI => ?_) (fun i hi again s hI ha => ?_) rfl
    · subst hI
      dsimp only
      rw [if_neg (by simp), List.take_length]
      unfold slices_Concat_Action
      dsimp only
      rw [if_pos ⟨by unfold dropsP; rw [List.length_map]; have := List.length_filter_le (fun f : Fi => (getT (filesP b) f.1).isNone) t; omega, by unfold putsP; rw [List.length_map]; have := List.length_filter_le (fun g : Fi => !t.any fun f => (g.1 == f.1) && (g.2 == f.2)) (filesP b); omega⟩]
      rfl
    · subst hI
      dsimp only
      have htk : (filesP b).take (i + 1) = (filesP b).take i ++ [(filesP b)[i]] := (List.take_append_getElem hi).symm
      rw [if_pos (by simp; omega), ixL_nat hi, wrap_succ (by omega), contF_ok (by omega), Option.bind_some]
      have hpl : (putsP t ((filesP b).take i)).length ≤ i := by
        unfold putsP
        rw [List.length_map]
        have := List.length_filter_le (fun g : Fi => !t.any fun f => (g.1 == f.1) && (g.2 == f.2)) ((filesP b).take i)
        rw [List.length_take] at this
        omega
      cases hc : t.any fun f => ((filesP b)[i].1 == f.1) && ((filesP b)[i].2 == f.2) with
      | true =>
        rw [if_neg (by simp)]
        refine ha _ ?_
        rw [htk]
        simp only [putsP, List.filter_append, List.map_append]
        rw [List.filter_cons_of_neg (by rw [hc]; simp)]
        simp
      | false =>
        rw [if_pos (by simp), if_pos (fits40 (by simp; omega))]
        refine ha _ ?_
        rw [htk]
        simp only [putsP, List.filter_append, List.map_append]
        rw [List.filter_cons_of_pos (by rw [hc]; simp)]
        simp
  · subst hI
    dsimp only
    have htk : t.take (i + 1) = t.take i ++ [t[i]] := (List.take_append_getElem hi).symm
    rw [if_pos (by simp; omega), ixL_nat hi, wrap_succ (by omega)]
    have hpl : (dropsP (t.take i) (filesP b)).length ≤ i := by
      unfold dropsP
      rw [List.length_map]
      have := List.length_filter_le (fun f : Fi => (getT (filesP b) f.1).isNone) (t.take i)
      rw [List.length_take] at this
      omega
    rcases findT_cases hfb hF t[i].1 with ⟨g, f⟩ | ⟨k, hk, hq, g, f⟩
    · rw [f, Option.bind_some, if_pos (by decide), if_pos (fits40 (by simp; omega))]
      refine ha _ ?_
      rw [htk]
      simp only [dropsP, List.filter_append, List.map_append]
      rw [List.filter_cons_of_pos (by rw [g]; rfl)]
      simp
    · rw [f, Option.bind_some, if_neg (by simp)]
      refine ha _ ?_
      rw [htk]
      simp only [dropsP, List.filter_append, List.map_append]
      rw [List.filter_cons_of_neg (by rw [g]; simp)]
      simp
end Go.Proofs.W.Q10
namespace Go.Proofs.W.Q10
open Go Go.Proofs.V Go.Proofs.W.Q9
set_option linter.unusedVariables false
set_option linter.unusedSimpArgs false
theorem all_loopK {α : Type} {l : List α} {p : α → Bool} {step : (Int → Option Bool) → Int → Option Bool} (K : Option Bool) (hl : l.length < 1000000000) (hlast : ∀ again, step again (l.length : Int) = K) (hstep : ∀ i, (hi : i < l.length) → ∀ again, step again (i : Int) = if p l[i] = true then again ((i + 1 : Nat) : Int) else some false) : fixS step fuel 0 = if l.all p = true then K else some false := by
  refine loop_run l.length (fun i s => s = (i : Int) ∧ (l.take i).all p = true) _ (by omega) (fun again s hI => ?_) (fun i hi again s hI ha => ?_) ⟨rfl, rfl⟩
  · obtain ⟨rfl, h⟩ := hI
    rw [List.take_length] at h
    rw [hlast, if_pos h]
  · obtain ⟨rfl, h⟩ := hI
    rw [hstep i hi]
    cases hp : p l[i] with
    | true => 
      rw [if_pos rfl]
      exact ha _ ⟨rfl, by rw [all_take hi, h, hp]; rfl⟩
    | false =>
      rw [if_neg (by simp), if_neg]
      rw [List.all_eq_true]
      intro hall
      rw [hall _ (List.getElem_mem hi)] at hp
      cases hp
theorem less_append : ∀ (q : List UInt8) (c : UInt8) (r : List UInt8), Op.bytesLess q (q ++ c :: r) = true
  | [], c, r => rfl
  | x :: q, c, r => by
    rw [List.cons_append]
    unfold Op.bytesLess
    rw [less_append q c r]
    simp
theorem under_less {p q : List UInt8} (h : underB p q = true) : Op.bytesLess q p = true := by
  unfold underB at h
  cases hu : path_Under (p, q) with
  | none => rw [hu] at h; cases h
  | some r =>
    rw [hu] at h
    have h : r = true := h
    subst h
    unfold path_Under at hu
    dsimp only at hu
    obtain ⟨r1, _, hu⟩ := bind_true hu
    split at hu
    case isFalse => cases hu
    obtain ⟨r2, _, hu⟩ := bind_true hu
    split at hu
    case isFalse => cases hu
    split at hu
    case isFalse => cases hu
    split at hu
    case isFalse => cases hu
    obtain ⟨r3, hu, h3⟩ := bind_true hu
    cases h3
    unfold strings_HasPrefix stringslite_HasPrefix at hu
    dsimp only at hu
    obtain ⟨r4, hu, h4⟩ := bind_true hu
    cases h4
    split at hu
    case isFalse => cases hu
    unfold cutL at hu
    split at hu
    case isFalse => cases hu
    rename_i hle
    simp only [Int.toNat_natCast, Option.some.injEq, beq_iff_eq] at hu
    have e : p = (q ++ [47]) ++ p.drop (q ++ [47]).length := by
      have h1 := List.take_append_drop (q ++ [47]).length p
      have hu2 : p.take (q ++ [47]).length = q ++ [47] := by simpa using hu
      rw [hu2] at h1
      exact h1.symm
    rw [e, List.append_assoc]
    exact less_append q 47 _
noncomputable def okAt (t : List Fi) (i : Nat) : Bool :=
  if h : i < t.length then pathB t[i].1 && (decide (t[i].2.length ≤ 600) && ((decide (i = 0) || !(Op.bytesLess t[i].1 (t[i-1]'(by omega)).1 || t[i].1 == (t[i-1]'(by omega)).1)) && (t.take i).all fun g => !underB t[i].1 g.1)) else true
theorem treeX_iff {t : List Fi} (hb : ∀ g ∈ t, g.1.length ≤ 1000000) : (decide (t.length ≤ 16) && (List.range t.length).all (okAt t)) = true ↔ TreeX t := by
  have hat : ∀ i, (h : i < t.length) → okAt t i = (pathB t[i].1 && (decide (t[i].2.length ≤ 600) && ((decide (i = 0) || !(Op.bytesLess t[i].1 (t[i-1]'(by omega)).1 || t[i].1 == (t[i-1]'(by omega)).1)) && (t.take i).all fun g => !underB t[i].1 g.1))) := fun i h => by unfold okAt; rw [dif_pos h]
  rw [Bool.and_eq_true, decide_eq_true_eq, List.all_eq_true]
  constructor
  · rintro ⟨hl, hall⟩
    have key : ∀ i, (h : i < t.length) → pathB t[i].1 = true ∧ t[i].2.length ≤ 600 ∧ (i = 0 ∨ (Op.bytesLess t[i].1 (t[i-1]'(by omega)).1 || t[i].1 == (t[i-1]'(by omega)).1) = false) ∧ ∀ g ∈ t.take i, underB t[i].1 g.1 = false := by
      intro i h
      have h1 := hall i (List.mem_range.2 h)
      rw [hat i h] at h1
      simp only [Bool.and_eq_true, decide_eq_true_eq, Bool.or_eq_true, List.all_eq_true, Bool.not_eq_true'] at h1
      exact ⟨h1.1, h1.2.1, h1.2.2.1, h1.2.2.2⟩
    have hup : ∀ i, (h : i + 1 < t.length) → rgt t[i+1].1 t[i].1 := fun i h => by
      have h1 := (key (i + 1) h).2.2.1
      rcases h1 with h1 | h1
      · omega
      · exact h1
    have hasc : AscF t := asc_of _ t hup
    refine ⟨hl, fun f hf => ?_, fun f hf => ?_, hup, fun f hf g hg => ?_⟩
    · obtain ⟨i, hi, rfl⟩ := List.getElem_of_mem hf
      rw [right_ok (hb _ hf), (key i hi).1]
    · obtain ⟨i, hi, rfl⟩ := List.getElem_of_mem hf
      exact (key i hi).2.1
    · obtain ⟨i, hi, rfl⟩ := List.getElem_of_mem hf
      obtain ⟨j, hj, rfl⟩ := List.getElem_of_mem hg
      by_cases h : j < i
      · exact (key i hi).2.2.2 _ (by rw [List.mem_take_iff_getElem]; exact ⟨j, by omega, rfl⟩)
      · cases hu : underB t[i].1 t[j].1 with
        | false => rfl
        | true =>
          have h1 := under_less hu
          rcases Nat.lt_or_ge i j with h2 | h2
          · have h3 : Les t[i].1 t[j].1 := List.pairwise_iff_getElem.1 hasc i j hi hj h2
            have := Q9.less_trans h1 h3
            rw [less_irrefl] at this
            cases this
          · have : i = j := by omega
            subst this
            rw [less_irrefl] at h1
            cases h1
  · intro h
    refine ⟨h.len, fun i hi => ?_⟩
    have hi := List.mem_range.1 hi
    have hp := h.path _ (List.getElem_mem hi)
    rw [right_ok (hb _ (List.getElem_mem hi))] at hp
    rw [hat i hi]
    simp only [Bool.and_eq_true, decide_eq_true_eq, Bool.or_eq_true, List.all_eq_true, Bool.not_eq_true']
    refine ⟨Option.some.inj hp, h.data _ (List.getElem_mem hi), ?_, fun g hg => h.no _ (List.getElem_mem hi) g (List.mem_of_mem_take hg)⟩
    by_cases h0 : i = 0
    · exact .inl h0
    · right
      have h1 := h.up (i - 1) (by omega)
      have e : i - 1 + 1 = i := by omega
      simp only [e] at h1
      exact h1
theorem tree_dec {t : List Fi} (hb : ∀ g ∈ t, g.1.length ≤ 1000000) : tree_Right t = some (decide (t.length ≤ 16) && (List.range t.length).all (okAt t)) := by
  obtain ⟨r, hr⟩ := treeRight_ends t hb
  rw [hr]
  congr 1
  cases r with
  | true => exact ((treeX_iff hb).2 (treeX_fwd hb hr)).symm
  | false =>
    cases h : (decide (t.length ≤ 16) && (List.range t.length).all (okAt t)) with
    | false => rfl
    | true =>
      rw [treeX_back hb ((treeX_iff hb).1 h)] at hr
      cases hr
theorem reftree_ok {t : List Fi} (hb : ∀ g ∈ t, g.1.length ≤ 1000000) : ref04_Right t = tree_Right t := by
  rw [tree_dec hb]
  unfold ref04_Right
  by_cases hl : t.length ≤ 16
  · rw [if_neg (by simp; omega), decide_eq_true hl, Bool.true_and]
    refine (all_loop (l := List.range t.length) (p := okAt t) true (by simp; omega) (fun again => by rw [if_neg (by simp)]) (fun i hi again => ?_)).trans (by rw [Bool.and_true])
    have hi' : i < t.length := by simpa using hi
    rw [List.getElem_range]
    have hbi := hb _ (List.getElem_mem hi')
    have inner : fixS (S := Int) (R := Bool) (fun again8 s9 => if decide (s9 < (i : Int)) = true then ixL t (i : Int) fun x10 => ixL t s9 fun x11 => (ref03_Under (x10.1, x11.1)).bind fun r12 => if r12 = true then some false else again8 (IntKind.wrap .i64 (s9 + 1)) else again (IntKind.wrap .i64 ((i : Int) + 1))) fuel 0 = if (t.take i).all (fun g => !underB t[i].1 g.1) = true then again ((i + 1 : Nat) : Int) else some false := by
      refine all_loopK (l := t.take i) (p := fun g => !underB t[i].1 g.1) _ (by simp; omega) (fun again' => ?_) (fun j hj again' => ?_)
      · have e : ((t.take i).length : Int) = (i : Int) := by rw [List.length_take]; omega
        rw [e, if_neg (by simp), wrap_succ (by omega)]
      · rw [List.length_take] at hj
        rw [if_pos (by simp; omega), ixL_nat hi', ixL_nat (by omega), wrap_succ (by omega)]
        have hbj := hb _ (List.getElem_mem (show j < t.length by omega))
        rw [refunder_ok hbi hbj, under_ok hbi hbj, Option.bind_some, List.getElem_take]
        cases underB t[i].1 t[j].1 <;> rfl
    have hat : okAt t i = (pathB t[i].1 && (decide (t[i].2.length ≤ 600) && ((decide (i = 0) || !(Op.bytesLess t[i].1 (t[i-1]'(by omega)).1 || t[i].1 == (t[i-1]'(by omega)).1)) && (t.take i).all fun g => !underB t[i].1 g.1))) := by unfold okAt; rw [dif_pos hi']
    rw [if_pos (by simp; omega), ixL_nat hi', refright_ok hbi, Option.bind_some, hat]
    cases h1 : pathB t[i].1 with
    | false => rfl
    | true =>
      rw [if_neg (by simp), ixL_nat hi', Bool.true_and]
      by_cases h2 : t[i].2.length ≤ 600
      · rw [if_neg (by simp; omega), decide_eq_true h2, Bool.true_and]
        by_cases h0 : 0 < i
        · rw [if_pos (by simp; omega), ixL_nat hi', pred64 h0 (by omega), ixL_nat (by omega), decide_eq_false (by omega : ¬ i = 0), Bool.false_or]
          by_cases h3 : (Op.bytesLess t[i].1 t[i-1].1 || t[i].1 == t[i-1].1) = true
          · rw [if_pos h3, h3]; rfl
          · rw [if_neg h3, inner]
            have h3 : (Op.bytesLess t[i].1 t[i-1].1 || t[i].1 == t[i-1].1) = false := by simpa using h3
            rw [h3]; rfl
        · rw [if_neg (by simp; omega), inner, decide_eq_true (by omega : i = 0)]
          rfl
      · rw [if_pos (by simp; omega), decide_eq_false h2]
        rfl
  · rw [if_pos (by simp; omega), decide_eq_false hl]
    rfl
end Go.Proofs.W.Q10
namespace Go.Proofs.W.Q10
open Go Go.Proofs.V Go.Proofs.W.Q9
set_option linter.unusedVariables false
set_option linter.unusedSimpArgs false
theorem ref02right_ok (c : Int × Int) : ref02_Right (c.1, c.2) = clock_Right (c.1, c.2) := by
  obtain ⟨r, hr⟩ := clockRight_ends (c.1, c.2)
  have hi := clockRight_iff (c.1, c.2)
  rw [hr] at hi ⊢
  have e : ref02_Right (c.1, c.2) = some true ↔ ClOk (c.1, c.2) := by
    unfold ref02_Right
    dsimp only
    constructor
    · intro h
      split at h
      case isFalse => cases h
      split at h
      case isFalse => cases h
      split at h
      case isFalse => cases h
      simp only [decide_eq_true_eq, Option.some.injEq, ge_iff_le] at *
      constructor <;> assumption
    · rintro ⟨h1, h2, h3, h4⟩
      dsimp only at h1 h2 h3 h4
      rw [if_pos (by simpa using h1), if_pos (by simpa using h2), if_pos (by simpa using h3), decide_eq_true h4]
  have t : ∃ b, ref02_Right (c.1, c.2) = some b := by
    unfold ref02_Right
    repeat' split
    all_goals exact ⟨_, rfl⟩
  obtain ⟨b, hb⟩ := t
  rw [hb] at e ⊢
  cases b with
  | true =>
    have := hi.2 (e.1 rfl)
    rw [this]
  | false =>
    cases r with
    | false => rfl
    | true => have := e.2 (hi.1 rfl); cases this
theorem fit_ok {a b : Int} (h : ClOk (a, b)) : ref02_Fit (a, b) = some (a, b) := by
  obtain ⟨h1, h2, h3, h4⟩ := h
  dsimp only at h1 h2 h3 h4
  unfold ref02_Fit ref02_clamp
  simp only [Option.bind_some]
  congr 1
  refine Prod.ext ?_ ?_ <;> dsimp only
  · rw [if_neg (by omega : ¬ 1073741824 < a)]
    split <;> omega
  · rw [if_neg (by omega : ¬ 1073741824 < b)]
    split <;> omega
theorem refjoin_ok {c d : Int × Int} (hc : ClOk c) (hd : ClOk d) : ref02_Join (c.1, (c.2, (d.1, d.2))) = some (joinC c d) := by
  unfold ref02_Join
  dsimp only
  rw [fit_ok hc, Option.bind_some, fit_ok hd, Option.bind_some]
  unfold joinC
  congr 1
  refine Prod.ext ?_ ?_ <;> dsimp only <;> split <;> omega
theorem reforder_ok {c d : Int × Int} (hc : ClOk c) (hd : ClOk d) : ref02_Order (c.1, (c.2, (d.1, d.2))) = some (if d.1 ≤ c.1 ∧ d.2 ≤ c.2 then (if c.1 = d.1 ∧ c.2 = d.2 then 0 else 2) else if c.1 ≤ d.1 ∧ c.2 ≤ d.2 then 1 else 3) := by
  unfold ref02_Order
  dsimp only
  rw [fit_ok hc, Option.bind_some, fit_ok hd, Option.bind_some]
  simp only [Bool.and_eq_true, beq_iff_eq, decide_eq_true_eq, ge_iff_le]
  repeat' split
  all_goals first | rfl | (exfalso; omega)
theorem refcome_ok {a b : En} (ha : ClOk a.2.2.2) (hb : ClOk b.2.2.2) : ref10_come (a.1, (a.2.1, (a.2.2.1, (a.2.2.2.1, (a.2.2.2.2, (b.1, (b.2.1, (b.2.2.1, (b.2.2.2.1, b.2.2.2.2))))))))) =
    some ((comeP a b).1.1, ((comeP a b).1.2.1, ((comeP a b).1.2.2.1, ((comeP a b).1.2.2.2.1, ((comeP a b).1.2.2.2.2, (comeP a b).2))))) := by
  have hj := refjoin_ok ha hb
  have ho := reforder_ok ha hb
  obtain ⟨p, f, d, c1, c2⟩ := a
  obtain ⟨p', f', d', e1, e2⟩ := b
  unfold ref10_come comeP meetP sameV
  dsimp only at hj ho ⊢
  rw [ho, Option.bind_some]
  simp only [hj]
  by_cases q1 : e1 ≤ c1 ∧ e2 ≤ c2
  · simp only [if_pos q1]
    by_cases q2 : c1 = e1 ∧ c2 = e2
    · obtain ⟨rfl, rfl⟩ := q2
      simp only [and_self, if_true]
      by_cases q4 : (f == f') = true
      · by_cases q5 : (d == d') = true
        · simp [q4, q5, joinC]
        · simp [q4, q5]
      · simp [q4]
    · simp only [if_neg q2]
      by_cases q4 : (f == f') = true
      · simp [q4]
      · simp [q4]
  · simp only [if_neg q1]
    by_cases q3 : c1 ≤ e1 ∧ c2 ≤ e2
    · simp only [if_pos q3]
      by_cases q4 : (f == f') = true
      · simp [q4]
      · simp [q4]
    · simp only [if_neg q3]
      by_cases q4 : (f == f') = true
      · by_cases q5 : (d == d') = true
        · simp [q4, q5]
        · simp [q4, q5]
      · simp [q4]
theorem reffiles_ok (a : List En) (hl : a.length < 300000000000) : ref09_files a = some (filesP a) := by
  unfold ref09_files
  refine loop_run a.length (fun i s => s = (filesP (a.take i), (i : Int))) _ (by omega) (fun again s hI => ?_) (fun i hi again s hI ha => ?_) rfl
  · subst hI
    dsimp only
    rw [if_neg (by simp), List.take_length]
  · subst hI
    dsimp only
    have ht : a.take (i + 1) = a.take i ++ [a[i]] := (List.take_append_getElem hi).symm
    rw [if_pos (by simp; omega), ixL_nat hi, wrap_succ (by omega)]
    have hlen : (filesP (a.take i)).length ≤ i := by
      have := filesP_len (a.take i)
      rw [List.length_take] at this
      omega
    split
    · rename_i hf
      rw [ixL_nat hi, ixL_nat hi, if_pos (fits32 (by simp; omega))]
      refine ha _ ?_
      rw [ht, filesP_snoc, if_pos hf]
    · rename_i hf
      refine ha _ ?_
      rw [ht, filesP_snoc, if_neg hf, List.append_nil]
noncomputable def okEAt (a : List En) (i : Nat) : Bool :=
  if h : i < a.length then pathB a[i].1 && (((clock_Right (a[i].2.2.2.1, a[i].2.2.2.2)).getD false) && (!((a[i].2.2.2.1 == 0) && (a[i].2.2.2.2 == 0)) && ((a[i].2.1 || (a[i].2.2.1 == [])) && (decide (i = 0) || !(Op.bytesLess a[i].1 (a[i-1]'(by omega)).1 || a[i].1 == (a[i-1]'(by omega)).1))))) else true
theorem refarch_ok {a : List En} (hb : ∀ e ∈ a, e.1.length ≤ 1000000) (hl : a.length < 1000000000) : ref09_Right a = scan_Right a := by
  have hfb := files_paths hb
  -- the program's, as a boolean
  have hS : scan_Right a = some ((List.range a.length).all (okEAt a) && (decide (a.length ≤ 32) && (tree_Right (filesP a)).getD false)) := by
    rw [right_step]
    refine all_loop (l := List.range a.length) (p := okEAt a) _ (by simp; omega) (fun again => ?_) (fun i hi again => ?_)
    · unfold rstep
      rw [if_neg (by simp)]
      by_cases h32 : a.length ≤ 32
      · rw [if_pos (by simp; omega), files_ok a (by omega), Option.bind_some, decide_eq_true h32]
        obtain ⟨r, hr⟩ := treeRight_ends _ hfb
        rw [hr]; rfl
      · rw [if_neg (by simp; omega), decide_eq_false h32]
        rfl
    · have hi' : i < a.length := by simpa using hi
      rw [List.getElem_range]
      have hat : okEAt a i = (pathB a[i].1 && (((clock_Right (a[i].2.2.2.1, a[i].2.2.2.2)).getD false) && (!((a[i].2.2.2.1 == 0) && (a[i].2.2.2.2 == 0)) && ((a[i].2.1 || (a[i].2.2.1 == [])) && (decide (i = 0) || !(Op.bytesLess a[i].1 (a[i-1]'(by omega)).1 || a[i].1 == (a[i-1]'(by omega)).1)))))) := by unfold okEAt; rw [dif_pos hi']
      obtain ⟨rc, hrc⟩ := clockRight_ends (a[i].2.2.2.1, a[i].2.2.2.2)
      rw [hrc] at hat
      unfold rstep
      rw [if_pos (by simp; omega), ixL_nat hi', right_ok (hb _ (List.getElem_mem hi')), Option.bind_some, wrap_succ (by omega), hat]
      cases pathB a[i].1 with
      | false => rfl
      | true =>
        rw [if_neg (by simp)]
        have tail : ((clock_Right (a[i].2.2.2.1, a[i].2.2.2.2)).bind fun r6 => if (!r6) = true then some false else if ((a[i].2.2.2.1 == 0) && (a[i].2.2.2.2 == 0)) = true then some false else if (!a[i].2.1) = true then (if (!(a[i].2.2.1 == [])) = true then some false else again ((i + 1 : Nat) : Int)) else again ((i + 1 : Nat) : Int)) = if (rc && (!((a[i].2.2.2.1 == 0) && (a[i].2.2.2.2 == 0)) && (a[i].2.1 || (a[i].2.2.1 == [])))) = true then again ((i + 1 : Nat) : Int) else some false := by
          rw [hrc, Option.bind_some]
          cases rc with
          | false => rfl
          | true =>
            rw [if_neg (by simp)]
            cases ((a[i].2.2.2.1 == 0) && (a[i].2.2.2.2 == 0)) with
            | true => rfl
            | false =>
              rw [if_neg (by simp)]
              cases a[i].2.1 with
              | true => rfl
              | false =>
                rw [if_pos (by rfl)]
                cases (a[i].2.2.1 == []) <;> rfl
        by_cases h0 : 0 < i
        · rw [if_pos (by simp; omega), pred64 h0 (by omega), ixL_nat (by omega)]
          by_cases h3 : (Op.bytesLess a[i].1 a[i-1].1 || a[i].1 == a[i-1].1) = true
          · rw [if_pos h3, h3]
            rw [decide_eq_false (by omega : ¬ i = 0)]
            simp
          · rw [if_neg h3]
            have h3 : (Op.bytesLess a[i].1 a[i-1].1 || a[i].1 == a[i-1].1) = false := by simpa using h3
            refine tail.trans ?_
            rw [h3]
            simp
        · rw [if_neg (by simp; omega)]
          refine tail.trans ?_
          rw [decide_eq_true (by omega : i = 0)]
          simp
  rw [hS]
  unfold ref09_Right
  by_cases h32 : a.length ≤ 32
  · rw [if_neg (by simp; omega), decide_eq_true h32, Bool.true_and]
    refine all_loop (l := List.range a.length) (p := okEAt a) _ (by simp; omega) (fun again => ?_) (fun i hi again => ?_)
    · rw [if_neg (by simp), reffiles_ok a (by omega), Option.bind_some, reftree_ok hfb]
      obtain ⟨r, hr⟩ := treeRight_ends _ hfb
      rw [hr]; rfl
    · have hi' : i < a.length := by simpa using hi
      rw [List.getElem_range]
      have hat : okEAt a i = (pathB a[i].1 && (((clock_Right (a[i].2.2.2.1, a[i].2.2.2.2)).getD false) && (!((a[i].2.2.2.1 == 0) && (a[i].2.2.2.2 == 0)) && ((a[i].2.1 || (a[i].2.2.1 == [])) && (decide (i = 0) || !(Op.bytesLess a[i].1 (a[i-1]'(by omega)).1 || a[i].1 == (a[i-1]'(by omega)).1)))))) := by unfold okEAt; rw [dif_pos hi']
      obtain ⟨rc, hrc⟩ := clockRight_ends (a[i].2.2.2.1, a[i].2.2.2.2)
      rw [hrc] at hat
      rw [if_pos (by simp; omega), ixL_nat hi', refright_ok (hb _ (List.getElem_mem hi')), Option.bind_some, ref02right_ok (a[i].2.2.2), hrc, Option.bind_some, wrap_succ (by omega), hat]
      have last : (if decide ((i : Int) > 0) = true then ixL a (IntKind.wrap .i64 ((i : Int) - 1)) fun x6 => if (Op.bytesLess a[i].1 x6.1 || a[i].1 == x6.1) = true then some false else again ((i + 1 : Nat) : Int) else again ((i + 1 : Nat) : Int)) = if (decide (i = 0) || !(Op.bytesLess a[i].1 (a[i-1]'(by omega)).1 || a[i].1 == (a[i-1]'(by omega)).1)) = true then again ((i + 1 : Nat) : Int) else some false := by
        by_cases h0 : 0 < i
        · rw [if_pos (by simp; omega), pred64 h0 (by omega), ixL_nat (by omega), decide_eq_false (by omega : ¬ i = 0), Bool.false_or]
          cases (Op.bytesLess a[i].1 a[i-1].1 || a[i].1 == a[i-1].1) <;> rfl
        · rw [if_neg (by simp; omega), decide_eq_true (by omega : i = 0)]
          rfl
      have mid : (if (!a[i].2.1) = true then (if (!(a[i].2.2.1 == [])) = true then some false else (if decide ((i : Int) > 0) = true then ixL a (IntKind.wrap .i64 ((i : Int) - 1)) fun x6 => if (Op.bytesLess a[i].1 x6.1 || a[i].1 == x6.1) = true then some false else again ((i + 1 : Nat) : Int) else again ((i + 1 : Nat) : Int))) else (if decide ((i : Int) > 0) = true then ixL a (IntKind.wrap .i64 ((i : Int) - 1)) fun x6 => if (Op.bytesLess a[i].1 x6.1 || a[i].1 == x6.1) = true then some false else again ((i + 1 : Nat) : Int) else again ((i + 1 : Nat) : Int))) =
          if ((a[i].2.1 || (a[i].2.2.1 == [])) && (decide (i = 0) || !(Op.bytesLess a[i].1 (a[i-1]'(by omega)).1 || a[i].1 == (a[i-1]'(by omega)).1))) = true then again ((i + 1 : Nat) : Int) else some false := by
        rw [last]
        cases a[i].2.1 with
        | true => rfl
        | false =>
          rw [if_pos (by rfl)]
          cases (a[i].2.2.1 == []) <;> rfl
      cases pathB a[i].1 with
      | false => rfl
      | true =>
        rw [if_neg (by simp)]
        cases rc with
        | false => rfl
        | true =>
          rw [if_neg (by simp)]
          cases h1 : (a[i].2.2.2.1 == 0) with
          | true =>
            rw [if_pos rfl]
            cases h2 : (a[i].2.2.2.2 == 0) with
            | true => rfl
            | false =>
              rw [if_neg (by simp)]
              exact mid
          | false =>
            rw [if_neg (by simp)]
            exact mid
  · rw [if_pos (by simp; omega), decide_eq_false h32]
    simp
end Go.Proofs.W.Q10
namespace Go.Proofs.W.Q10
open Go Go.Proofs.V Go.Proofs.W.Q9
set_option linter.unusedVariables false
set_option linter.unusedSimpArgs false
theorem all_loopG {α R : Type} {l : List α} {p : α → Bool} {step : (Int → Option R) → Int → Option R} (K F : Option R) (hl : l.length < 1000000000) (hlast : ∀ again, step again (l.length : Int) = K) (hstep : ∀ i, (hi : i < l.length) → ∀ again, step again (i : Int) = if p l[i] = true then again ((i + 1 : Nat) : Int) else F) : fixS step fuel 0 = if l.all p = true then K else F := by
  refine loop_run l.length (fun i s => s = (i : Int) ∧ (l.take i).all p = true) _ (by omega) (fun again s hI => ?_) (fun i hi again s hI ha => ?_) ⟨rfl, rfl⟩
  · obtain ⟨rfl, h⟩ := hI
    rw [List.take_length] at h
    rw [hlast, if_pos h]
  · obtain ⟨rfl, h⟩ := hI
    rw [hstep i hi]
    cases hp : p l[i] with
    | true => 
      rw [if_pos rfl]
      exact ha _ ⟨rfl, by rw [all_take hi, h, hp]; rfl⟩
    | false =>
      rw [if_neg (by simp), if_neg]
      rw [List.all_eq_true]
      intro hall
      rw [hall _ (List.getElem_mem hi)] at hp
      cases hp
theorem refmay_ok {l : List En} (hb : ∀ e ∈ l, e.1.length ≤ 1000000) (hl : l.length < 1000000000) : ref10_may l = some (mayP l) := by
  unfold ref10_may
  have hfl := filesP_len l
  refine loop_run l.length (fun i s => s = (((filesP (l.take i)).length : Int), (i : Int))) _ (by omega) (fun again s hI => ?_) (fun i hi again s hI ha => ?_) rfl
  · subst hI
    dsimp only
    rw [if_neg (by simp), List.take_length]
    unfold mayP
    by_cases h1 : 32 < l.length
    · rw [if_pos h1]
      by_cases h2 : 16 < (filesP l).length
      · rw [if_pos (by simp; omega)]
      · rw [if_neg (by simp; omega), if_pos (by simp; omega)]
    · rw [if_neg h1]
      by_cases h2 : 16 < (filesP l).length
      · rw [if_pos h2, if_pos (by simp; omega)]
      · rw [if_neg h2, if_neg (by simp; omega), if_neg (by simp; omega)]
        have outer := all_loopG (R := Int) (l := l) (p := fun x => l.all fun y => !(x.2.1 && (y.2.1 && underB x.1 y.1))) (step := fun again4 s5 => if decide (s5 < (l.length : Int)) = true then fixS (S := Int) (R := Int) (fun again6 s7 => if decide (s7 < (l.length : Int)) = true then ixL l s5 fun x8 => if x8.2.1 = true then ixL l s7 fun x9 => if x9.2.1 = true then ixL l s5 fun x10 => ixL l s7 fun x11 => (ref03_Under (x10.1, x11.1)).bind fun r12 => if r12 = true then some 6 else again6 (IntKind.wrap .i64 (s7 + 1)) else again6 (IntKind.wrap .i64 (s7 + 1)) else again6 (IntKind.wrap .i64 (s7 + 1)) else again4 (IntKind.wrap .i64 (s5 + 1))) fuel 0 else some 0) (some 0) (some 6) hl (fun again => by rw [if_neg (by simp)]) (fun i hi again => by
          rw [if_pos (by simp; omega)]
          refine all_loopG (R := Int) (l := l) (p := fun y => !(l[i].2.1 && (y.2.1 && underB l[i].1 y.1))) _ _ hl (fun again' => by rw [if_neg (by simp), wrap_succ (by omega)]) (fun j hj again' => ?_)
          have hbi := hb _ (List.getElem_mem hi)
          have hbj := hb _ (List.getElem_mem hj)
          rw [if_pos (by simp; omega), ixL_nat hi, wrap_succ (by omega)]
          cases l[i].2.1 with
          | false => rfl
          | true =>
            rw [if_pos rfl, ixL_nat hj]
            cases l[j].2.1 with
            | false => rfl
            | true =>
              rw [if_pos rfl, ixL_nat hi, ixL_nat hj, refunder_ok hbi hbj, under_ok hbi hbj, Option.bind_some]
              cases underB l[i].1 l[j].1 <;> rfl)
        rw [outer]
        have hiff : (l.all fun x => l.all fun y => !(x.2.1 && (y.2.1 && underB x.1 y.1))) = true ↔ ¬ ((((filesP l).map (·.1)).any fun f => ((filesP l).map (·.1)).any fun g => clashB f g) = true) := by
          rw [List.all_eq_true]
          constructor
          · intro h hc
            rw [List.any_eq_true] at hc
            obtain ⟨f, hf, hc⟩ := hc
            rw [List.any_eq_true] at hc
            obtain ⟨g, hg, hc⟩ := hc
            obtain ⟨f', hf', rfl⟩ := List.mem_map.1 hf
            obtain ⟨g', hg', rfl⟩ := List.mem_map.1 hg
            obtain ⟨x, hx, bx, rfl⟩ := mem_files.1 hf'
            obtain ⟨y, hy, by_, rfl⟩ := mem_files.1 hg'
            have h1 := List.all_eq_true.1 (h x hx) y hy
            have h2 := List.all_eq_true.1 (h y hy) x hx
            rw [bx, by_] at h1 h2
            unfold clashB at hc
            simp at h1 h2 hc
            rw [h1, h2] at hc
            simp at hc
          · intro h x hx
            rw [List.all_eq_true]
            intro y hy
            cases bx : x.2.1 with
            | false => rfl
            | true =>
              cases by_ : y.2.1 with
              | false => rfl
              | true =>
                cases hu : underB x.1 y.1 with
                | false => rfl
                | true =>
                  refine absurd ?_ h
                  rw [List.any_eq_true]
                  refine ⟨x.1, List.mem_map.2 ⟨(x.1, x.2.2.1), mem_files.2 ⟨x, hx, bx, rfl⟩, rfl⟩, ?_⟩
                  rw [List.any_eq_true]
                  refine ⟨y.1, List.mem_map.2 ⟨(y.1, y.2.2.1), mem_files.2 ⟨y, hy, by_, rfl⟩, rfl⟩, ?_⟩
                  unfold clashB
                  rw [hu]; rfl
        by_cases hc : (((filesP l).map (·.1)).any fun f => ((filesP l).map (·.1)).any fun g => clashB f g) = true
        · rw [if_pos hc, if_neg (fun h => hiff.1 h hc)]
        · rw [if_neg hc, if_pos (hiff.2 hc)]
  · subst hI
    dsimp only
    have ht : l.take (i + 1) = l.take i ++ [l[i]] := (List.take_append_getElem hi).symm
    have hlen : (filesP (l.take i)).length ≤ i := by
      have := filesP_len (l.take i)
      rw [List.length_take] at this
      omega
    rw [if_pos (by simp; omega), ixL_nat hi, wrap_succ (by omega), wrap_succ (by omega)]
    split
    · rename_i hf
      refine ha _ ?_
      rw [ht, filesP_snoc, if_pos hf]
      simp
    · rename_i hf
      refine ha _ ?_
      rw [ht, filesP_snoc, if_neg hf, List.append_nil]
theorem getL_cons {x : En} {a : List En} (h : AscE (x :: a)) (q : List UInt8) : getL (x :: a) q = if x.1 = q then some x else getL a q := by
  have h' := List.pairwise_cons.1 h
  by_cases hq : x.1 = q
  · rw [if_pos hq]
    exact (getL_iff h).2 ⟨List.mem_cons_self, hq⟩
  · rw [if_neg hq]
    cases hg : getL a q with
    | none =>
      refine getL_none.2 fun e he => ?_
      rcases List.mem_cons.1 he with rfl | he
      · exact hq
      · exact getL_none.1 hg e he
    | some e =>
      obtain ⟨he, hqe⟩ := getL_some hg
      exact (getL_iff h).2 ⟨List.mem_cons_of_mem _ he, hqe⟩
theorem mrg_path {a b : List En} {e : En} (h : e ∈ mrg a b) : (∃ x ∈ a, x.1 = e.1) ∨ ∃ y ∈ b, y.1 = e.1 := by
  obtain ⟨q, hq, rfl⟩ := List.mem_map.1 h
  rw [pick_path hq]
  exact (mem_keys a b q).1 hq
theorem getL_far {b : List En} {q : List UInt8} (h : ∀ y ∈ b, Op.bytesLess q y.1 = true) : getL b q = none := getL_none.2 fun y hy e => by
  have := h y hy
  rw [e, less_irrefl] at this
  cases this
theorem mrg_cons_l {x : En} {a b : List En} (ha : AscE (x :: a)) (h : ∀ y ∈ b, Op.bytesLess x.1 y.1 = true) : mrg (x :: a) b = x :: mrg a b ∧ cnf (x :: a) b = cnf a b := by
  have ha' := List.pairwise_cons.1 ha
  have hasc : AscE (x :: mrg a b) := List.pairwise_cons.2 ⟨fun e he => by
    rcases mrg_path he with ⟨y, hy, hq⟩ | ⟨y, hy, hq⟩
    · show Op.bytesLess x.1 e.1 = true
      rw [← hq]; exact ha'.1 y hy
    · show Op.bytesLess x.1 e.1 = true
      rw [← hq]; exact h y hy, asc_mrg a b⟩
  constructor
  · refine asc_ext (asc_mrg _ _) hasc fun q => ?_
    rw [getL_mrg, getL_cons ha, getL_cons hasc, getL_mrg]
    by_cases hq : x.1 = q
    · rw [if_pos hq, if_pos hq, getL_far (by rw [← hq]; exact h)]
      rfl
    · rw [if_neg hq, if_neg hq]
  · refine up_eq (up_cnf _ _) (up_cnf _ _) fun q => ?_
    rw [mem_cnf, mem_cnf]
    constructor
    · rintro ⟨x', y, h1, h2, hc⟩
      rw [getL_cons ha] at h1
      by_cases hq : x.1 = q
      · rw [getL_far (by rw [← hq]; exact h)] at h2; cases h2
      · rw [if_neg hq] at h1; exact ⟨x', y, h1, h2, hc⟩
    · rintro ⟨x', y, h1, h2, hc⟩
      have hq : ¬ x.1 = q := fun hq => by rw [getL_far (by rw [← hq]; exact h)] at h2; cases h2
      exact ⟨x', y, by rw [getL_cons ha, if_neg hq]; exact h1, h2, hc⟩
theorem mrg_cons_r {y : En} {a b : List En} (hb : AscE (y :: b)) (h : ∀ x ∈ a, Op.bytesLess y.1 x.1 = true) : mrg a (y :: b) = y :: mrg a b ∧ cnf a (y :: b) = cnf a b := by
  have hb' := List.pairwise_cons.1 hb
  have hasc : AscE (y :: mrg a b) := List.pairwise_cons.2 ⟨fun e he => by
    rcases mrg_path he with ⟨x, hx, hq⟩ | ⟨x, hx, hq⟩
    · show Op.bytesLess y.1 e.1 = true
      rw [← hq]; exact h x hx
    · show Op.bytesLess y.1 e.1 = true
      rw [← hq]; exact hb'.1 x hx, asc_mrg a b⟩
  constructor
  · refine asc_ext (asc_mrg _ _) hasc fun q => ?_
    rw [getL_mrg, getL_cons hb, getL_cons hasc, getL_mrg]
    by_cases hq : y.1 = q
    · rw [if_pos hq, if_pos hq, getL_far (by rw [← hq]; exact h)]
      rfl
    · rw [if_neg hq, if_neg hq]
  · refine up_eq (up_cnf _ _) (up_cnf _ _) fun q => ?_
    rw [mem_cnf, mem_cnf]
    constructor
    · rintro ⟨x, y', h1, h2, hc⟩
      rw [getL_cons hb] at h2
      by_cases hq : y.1 = q
      · rw [getL_far (by rw [← hq]; exact h)] at h1; cases h1
      · rw [if_neg hq] at h2; exact ⟨x, y', h1, h2, hc⟩
    · rintro ⟨x, y', h1, h2, hc⟩
      have hq : ¬ y.1 = q := fun hq => by rw [getL_far (by rw [← hq]; exact h)] at h1; cases h1
      exact ⟨x, y', h1, by rw [getL_cons hb, if_neg hq]; exact h2, hc⟩
theorem mrg_cons_e {x y : En} {a b : List En} (ha : AscE (x :: a)) (hb : AscE (y :: b)) (h : x.1 = y.1) : mrg (x :: a) (y :: b) = (comeP x y).1 :: mrg a b ∧ cnf (x :: a) (y :: b) = (if (comeP x y).2 = true then (comeP x y).1.1 :: cnf a b else cnf a b) := by
  have ha' := List.pairwise_cons.1 ha
  have hb' := List.pairwise_cons.1 hb
  have hp := come_path h
  have hasc : AscE ((comeP x y).1 :: mrg a b) := List.pairwise_cons.2 ⟨fun e he => by
    show Op.bytesLess (comeP x y).1.1 e.1 = true
    rw [hp]
    rcases mrg_path he with ⟨z, hz, hq⟩ | ⟨z, hz, hq⟩
    · rw [← hq]; exact ha'.1 z hz
    · rw [← hq, h]; exact hb'.1 z hz, asc_mrg a b⟩
  have fa : getL a x.1 = none := getL_far ha'.1
  have fb : getL b x.1 = none := getL_far (by rw [h]; exact hb'.1)
  constructor
  · refine asc_ext (asc_mrg _ _) hasc fun q => ?_
    rw [getL_mrg, getL_cons ha, getL_cons hb, getL_cons hasc, getL_mrg, hp, ← h]
    by_cases hq : x.1 = q
    · rw [if_pos hq, if_pos hq, if_pos hq]; rfl
    · rw [if_neg hq, if_neg hq, if_neg hq]
  · have hup : Up (if (comeP x y).2 = true then (comeP x y).1.1 :: cnf a b else cnf a b) := by
      split
      · refine List.pairwise_cons.2 ⟨fun q hq => ?_, up_cnf a b⟩
        obtain ⟨u, v, h1, _, _⟩ := mem_cnf.1 hq
        obtain ⟨h2, rfl⟩ := getL_some h1
        rw [hp]; exact ha'.1 u h2
      · exact up_cnf a b
    refine up_eq (up_cnf _ _) hup fun q => ?_
    rw [mem_cnf]
    constructor
    · rintro ⟨u, v, h1, h2, hc⟩
      rw [getL_cons ha] at h1
      rw [getL_cons hb, ← h] at h2
      by_cases hq : x.1 = q
      · rw [if_pos hq] at h1 h2
        cases h1; cases h2
        rw [if_pos hc, hp, hq]
        exact List.mem_cons_self
      · rw [if_neg hq] at h1 h2
        have := mem_cnf.2 ⟨u, v, h1, h2, hc⟩
        split
        · exact List.mem_cons_of_mem _ this
        · exact this
    · intro hm
      have hm : (q = x.1 ∧ (comeP x y).2 = true) ∨ q ∈ cnf a b := by
        split at hm
        · rename_i hc
          rcases List.mem_cons.1 hm with e | e
          · exact .inl ⟨e.trans hp, hc⟩
          · exact .inr e
        · exact .inr hm
      rcases hm with ⟨rfl, hc⟩ | hm
      · exact ⟨x, y, by rw [getL_cons ha, if_pos rfl], by rw [getL_cons hb, if_pos h.symm], hc⟩
      · obtain ⟨u, v, h1, h2, hc⟩ := mem_cnf.1 hm
        have hq : ¬ x.1 = q := fun hq => by rw [← hq, fa] at h1; cases h1
        exact ⟨u, v, by rw [getL_cons ha, if_neg hq]; exact h1, by rw [getL_cons hb, if_neg (by rw [← h]; exact hq)]; exact h2, hc⟩
theorem fits56 {n : Nat} (h : n ≤ 600000000) : fitsB 56 (n : Int) = true := by
  unfold fitsB
  simp only [Int.toNat_natCast, Bool.and_eq_true, decide_eq_true_eq]
  omega
theorem asc_drop {a : List En} (h : AscE a) (i : Nat) : AscE (a.drop i) := List.Pairwise.sublist (List.drop_sublist i a) h
theorem refmerge_ok {a b : List En} (ha : Mid a) (hb : Mid b) : ref10_Merge (a, b) = recon_Merge (a, b) := by
  have hna := ha.n
  have hnb := hb.n
  have ea := refarch_ok ha.p (by omega)
  have eb := refarch_ok hb.p (by omega)
  obtain ⟨ra, h1⟩ := ha.ends
  obtain ⟨rb, h2⟩ := hb.ends
  by_cases h : ra = true ∧ rb = true
  · obtain ⟨rfl, rfl⟩ := h
    have k1 := ha.right h1
    have k2 := hb.right h2
    have aa := RightS.asc k1
    have ab := RightS.asc k2
    rw [merge_ok ha hb k1 k2]
    unfold ref10_Merge
    dsimp only
    rw [ea, h1, Option.bind_some, eb, h2, Option.bind_some, if_neg (by simp), if_neg (by simp)]
    refine loop_meas (fun s => (a.length - s.2.2.1.toNat) + (b.length - s.2.2.2.toNat)) (fun s => ∃ out cs, ∃ i k : Nat, s = (out, (cs, ((i : Int), (k : Int)))) ∧ i ≤ a.length ∧ k ≤ b.length ∧ mrg a b = out ++ mrg (a.drop i) (b.drop k) ∧ cnf a b = cs ++ cnf (a.drop i) (b.drop k) ∧ out.length ≤ i + k ∧ cs.length ≤ i + k) _ (fun again s hI hg => ?_) ⟨[], [], 0, 0, rfl, by omega, by omega, rfl, rfl, by simp, by simp⟩ (by unfold fuel; dsimp only; omega)
    obtain ⟨out, cs, i, k, rfl, hi, hk, hm, hc, ho, hcs⟩ := hI
    dsimp only
    have stepL : (hil : i < a.length) → (∀ y ∈ b.drop k, Op.bytesLess a[i].1 y.1 = true) → again (out ++ [(a[i].1, (a[i].2.1, (a[i].2.2.1, (a[i].2.2.2.1, a[i].2.2.2.2))))], (cs, (((i + 1 : Nat) : Int), (k : Int)))) = some (if mayP (mrg a b) = 0 then (mrg a b, (cnf a b, 0)) else ([], ([], mayP (mrg a b)))) := by
      intro hil hl
      have hd : a.drop i = a[i] :: a.drop (i + 1) := List.drop_eq_getElem_cons hil
      have hasc := asc_drop aa i
      rw [hd] at hasc hm hc
      obtain ⟨m1, m2⟩ := mrg_cons_l hasc hl
      refine hg _ ⟨_, _, i + 1, k, rfl, by omega, hk, ?_, by rw [hc, m2], by simp; omega, by omega⟩ (by dsimp only; omega)
      rw [hm, m1]
      simp
    have stepR : (hkl : k < b.length) → (∀ x ∈ a.drop i, Op.bytesLess b[k].1 x.1 = true) → again (out ++ [(b[k].1, (b[k].2.1, (b[k].2.2.1, (b[k].2.2.2.1, b[k].2.2.2.2))))], (cs, ((i : Int), ((k + 1 : Nat) : Int)))) = some (if mayP (mrg a b) = 0 then (mrg a b, (cnf a b, 0)) else ([], ([], mayP (mrg a b)))) := by
      intro hkl hl
      have hd : b.drop k = b[k] :: b.drop (k + 1) := List.drop_eq_getElem_cons hkl
      have hasc := asc_drop ab k
      rw [hd] at hasc hm hc
      obtain ⟨m1, m2⟩ := mrg_cons_r hasc hl
      refine hg _ ⟨_, _, i, k + 1, rfl, hi, by omega, ?_, by rw [hc, m2], by simp; omega, by omega⟩ (by dsimp only; omega)
      rw [hm, m1]
      simp
    by_cases hil : i < a.length
    · rw [if_pos (by simp; omega)]
      by_cases hkl : k < b.length
      · rw [if_neg (by simp; omega), if_pos (by simp; omega), ixL_nat hil, ixL_nat hkl]
        have hda : a.drop i = a[i] :: a.drop (i + 1) := List.drop_eq_getElem_cons hil
        have hdb : b.drop k = b[k] :: b.drop (k + 1) := List.drop_eq_getElem_cons hkl
        have pa := asc_drop aa i
        have pb := asc_drop ab k
        rw [hda] at pa
        rw [hdb] at pb
        by_cases hl : Op.bytesLess a[i].1 b[k].1 = true
        · rw [if_pos hl, ixL_nat hil, if_pos (fits56 (by simp; omega)), wrap_succ (by omega)]
          refine stepL hil fun y hy => ?_
          rw [hdb] at hy
          rcases List.mem_cons.1 hy with rfl | hy
          · exact hl
          · exact Q9.less_trans hl ((List.pairwise_cons.1 pb).1 y hy)
        · rw [if_neg hl, if_neg (by simp; omega), ixL_nat hkl, ixL_nat hil]
          by_cases hr : Op.bytesLess b[k].1 a[i].1 = true
          · rw [if_pos hr, ixL_nat hkl, if_pos (fits56 (by simp; omega)), wrap_succ (by omega)]
            refine stepR hkl fun x hx => ?_
            rw [hda] at hx
            rcases List.mem_cons.1 hx with rfl | hx
            · exact hr
            · exact Q9.less_trans hr ((List.pairwise_cons.1 pa).1 x hx)
          · have he : a[i].1 = b[k].1 := by
              by_cases h : a[i].1 = b[k].1
              · exact h
              · have := Q9.less_total (by simpa using hl) h
                rw [this] at hr
                exact absurd rfl hr
            rw [if_neg hr, ixL_nat hil, ixL_nat hkl, refcome_ok (k1.ok _ (List.getElem_mem hil)).cl (k2.ok _ (List.getElem_mem hkl)).cl, Option.bind_some]
            dsimp only
            obtain ⟨m1, m2⟩ := mrg_cons_e pa pb he
            rw [hda, hdb] at hm hc
            rw [m1] at hm
            rw [m2] at hc
            cases hcf : (comeP a[i] b[k]).2 with
            | true =>
              rw [if_pos rfl, if_pos (fits16 (by simp; omega)), if_pos (fits56 (by simp; omega)), wrap_succ (by omega), wrap_succ (by omega)]
              rw [hcf, if_pos rfl] at hc
              refine hg _ ⟨_, _, i + 1, k + 1, rfl, by omega, by omega, ?_, ?_, by simp; omega, by simp; omega⟩ (by dsimp only; omega)
              · rw [hm]; simp
              · rw [hc]; simp
            | false =>
              rw [if_neg (by simp), if_pos (fits56 (by simp; omega)), wrap_succ (by omega), wrap_succ (by omega)]
              rw [hcf, if_neg (by simp)] at hc
              refine hg _ ⟨_, _, i + 1, k + 1, rfl, by omega, by omega, ?_, hc, by simp; omega, by omega⟩ (by dsimp only; omega)
              rw [hm]; simp
      · have hkk : k = b.length := by omega
        subst hkk
        rw [if_pos (by simp), ixL_nat hil, if_pos (fits56 (by simp; omega)), wrap_succ (by omega)]
        exact stepL hil fun y hy => by rw [List.drop_length] at hy; cases hy
    · have hii : i = a.length := by omega
      subst hii
      rw [if_neg (by simp)]
      by_cases hkl : k < b.length
      · rw [if_pos (by simp; omega), if_neg (by simp; omega), if_neg (by simp), if_pos (by simp), ixL_nat hkl, if_pos (fits56 (by simp; omega)), wrap_succ (by omega)]
        exact stepR hkl fun x hx => by rw [List.drop_length] at hx; cases hx
      · have hkk : k = b.length := by omega
        subst hkk
        rw [List.drop_length, List.drop_length] at hm hc
        have e1 : mrg [] [] = [] := rfl
        have e2 : cnf [] [] = [] := rfl
        rw [e1, List.append_nil] at hm
        rw [e2, List.append_nil] at hc
        subst hm
        subst hc
        rw [if_neg (by simp), refmay_ok (mrg_paths ha.p hb.p) (by have := mrg_len a b ha hb; omega), Option.bind_some]
        by_cases hz : mayP (mrg a b) = 0
        · rw [if_neg (by simpa using hz), if_pos hz]
        · rw [if_pos (by simpa using hz), if_neg hz]
  · rw [merge_err ha hb h1 h2 h]
    unfold ref10_Merge
    dsimp only
    rw [ea, h1, Option.bind_some, eb, h2, Option.bind_some]
    cases ra with
    | false => rfl
    | true =>
      cases rb with
      | false => rfl
      | true => exact absurd ⟨rfl, rfl⟩ h
theorem place_idx {l : List En} (hl : l.length < 1000000000) (q : List UInt8) : ref10_place (l, q) = some (idxP (fun e : En => e.1 == q) l 0) := by
  unfold ref10_place
  exact index_loop l (fun x3 : En => some (x3.1 == q)) (fun e => e.1 == q) hl fun x hx => rfl
theorem find_idx {l : List En} (hR : scan_Right l = some true) (hl : l.length < 1000000000) (q : List UInt8) : scan_Find (l, q) = some (idxP (fun e : En => e.1 == q) l 0) := by
  unfold scan_Find
  dsimp only
  rw [hR, Option.bind_some, if_neg (by simp)]
  have : scan_find (l, q) = some (idxP (fun e : En => e.1 == q) l 0) := by
    unfold scan_find
    have : slices_IndexFunc_Entry_scan_find_1 (l, q) = some (idxP (fun e : En => e.1 == q) l 0) := by
      unfold slices_IndexFunc_Entry_scan_find_1
      exact index_loop l (fun x3 : En => scan_find_1 (x3.1, (x3.2.1, (x3.2.2.1, (x3.2.2.2.1, (x3.2.2.2.2, q)))))) (fun e => e.1 == q) hl fun x hx => rfl
    show (slices_IndexFunc_Entry_scan_find_1 (l, q)).bind _ = _
    rw [this]; rfl
  rw [this]; rfl
end Go.Proofs.W.Q10
