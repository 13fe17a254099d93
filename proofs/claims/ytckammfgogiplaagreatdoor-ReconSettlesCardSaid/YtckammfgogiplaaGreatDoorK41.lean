/- ReconTurned, ReconThree: plain laws. -/
import Derived.Test.YtckammfgogiplaaGreatDoorK39
import Derived.Test.YtckammfgogiplaaGreatDoorK40
namespace Go.Proofs.W.Q10
open Go Go.Proofs.V Go.Proofs.W.Q9
set_option linter.unusedVariables false
set_option linter.unusedSimpArgs false
theorem come_up {r x : En} (hp : r.1 = x.1) (hc : x.2.2.2.1 ≤ r.2.2.2.1 ∧ x.2.2.2.2 ≤ r.2.2.2.2) (hv : ltC x.2.2.2 r.2.2.2 ∨ valV r = valV x) : comeP r x = (r, false) := by
  have h : (comeP r x).2 = false := come_iff.2 (by rcases hv with h | h; exact .inr (.inl h); exact .inr (.inr h))
  have h1 := come_nc hp h
  rw [if_neg (by unfold ltC; omega)] at h1
  have hj : joinC r.2.2.2 x.2.2.2 = r.2.2.2 := by
    unfold joinC
    refine Prod.ext ?_ ?_ <;> (dsimp only; omega)
  rw [hj] at h1
  refine Prod.ext ?_ h
  rw [h1]; rfl
theorem getL_path {a : List En} {q : List UInt8} {e : En} (h : getL a q = some e) : e.1 = q := (getL_some h).2
theorem cnf_comm (a b : List En) : cnf a b = cnf b a := by
  refine up_eq (up_cnf _ _) (up_cnf _ _) fun q => ?_
  rw [mem_cnf, mem_cnf]
  constructor
  · rintro ⟨x, y, h1, h2, hc⟩
    exact ⟨y, x, h2, h1, by rw [← (come_comm ((getL_path h1).trans (getL_path h2).symm)).1]; exact hc⟩
  · rintro ⟨x, y, h1, h2, hc⟩
    exact ⟨y, x, h2, h1, by rw [← (come_comm ((getL_path h1).trans (getL_path h2).symm)).1]; exact hc⟩
theorem has_ok {l : List (List UInt8)} {q : List UInt8} (hl : l.length < 1000000000) : law10_has (l, q) = some (l.any fun x => x == q) := by
  unfold law10_has
  have := fixS_idx (R := Bool) (step := fun again1 s2 => if decide (s2 < (l.length : Int)) = true then ixL l s2 fun x3 => if (x3 == q) = true then some true else again1 (IntKind.wrap .i64 (s2 + 1)) else some false) l.length (fun i => some ((l.drop i).any fun x => x == q)) (by omega)
    (fun again => by simp) (fun i hi again ha => by
      rw [if_pos (by simp; omega), ixL_nat hi, wrap_succ (by omega), List.drop_eq_getElem_cons hi, List.any_cons]
      split
      · rename_i h; rw [h]; rfl
      · rename_i h
        have h : (l[i] == q) = false := by simpa using h
        rw [ha, h]; rfl)
  simpa using this
theorem has_mem {l : List (List UInt8)} {q : List UInt8} (hl : l.length < 1000000000) {b : Bool} (h : b = true ↔ q ∈ l) : law10_has (l, q) = some b := by
  rw [has_ok hl]
  congr 1
  cases b with
  | true =>
    rw [List.any_eq_true]
    exact ⟨q, h.1 rfl, by simp⟩
  | false =>
    rw [List.any_eq_false]
    intro x hx
    simp only [beq_iff_eq]
    rintro rfl
    have := h.2 hx
    cases this
theorem cnf_len (a b : List En) (ha : Mid a) (hb : Mid b) : (cnf a b).length ≤ 128 := by
  have h1 := keys_len a b
  have h2 := ha.n
  have h3 := hb.n
  unfold cnf
  have := List.length_filter_le (fun q => (pick a b q).2) (keysL a b)
  omega
end Go.Proofs.W.Q10
namespace Go.Proofs.W.Q10
open Go Go.Proofs.V Go.Proofs.W.Q9
set_option linter.unusedVariables false
set_option linter.unusedSimpArgs false
theorem contS_ok {l : List (List UInt8)} {q : List UInt8} (hl : l.length < 1000000000) : slices_Contains_string (l, q) = some (l.any fun x => q == x) := by
  unfold slices_Contains_string
  have : slices_Index_string (l, q) = some (idxP (fun x => q == x) l 0) := by
    unfold slices_Index_string
    exact index_loop l (fun x => some (q == x)) (fun x => q == x) hl fun x hx => rfl
  show (slices_Index_string (l, q)).bind _ = _
  rw [this]
  show some _ = _
  rw [idxP_any]
theorem contS_mem {l : List (List UInt8)} {q : List UInt8} (hl : l.length < 1000000000) {b : Bool} (h : b = true ↔ q ∈ l) : slices_Contains_string (l, q) = some b := by
  rw [contS_ok hl]
  congr 1
  cases b with
  | true =>
    rw [List.any_eq_true]
    exact ⟨q, h.1 rfl, by simp⟩
  | false =>
    rw [List.any_eq_false]
    intro x hx
    simp only [beq_iff_eq]
    rintro rfl
    have := h.2 hx
    cases this
theorem find_cases {l : List En} (hR : RightS l) (q : List UInt8) : (getL l q = none ∧ scan_Find (l, q) = some (-1)) ∨ ∃ k, ∃ hk : k < l.length, l[k].1 = q ∧ getL l q = some l[k] ∧ scan_Find (l, q) = some (k : Int) := by
  have hl := hR.len
  have ha := RightS.asc hR
  cases hg : getL l q with
  | none => exact .inl ⟨rfl, find_none (right_back hR) (by omega) (getL_none.1 hg)⟩
  | some e =>
    obtain ⟨he, hq⟩ := getL_some hg
    obtain ⟨k, hk, rfl⟩ := List.getElem_of_mem he
    refine .inr ⟨k, hk, hq, rfl, ?_⟩
    rw [← hq]
    exact find_some (right_back hR) (by omega) hk fun i hi hne => asc_ne ha hi hk hne
/-- Two that tell the same of a path agree. -/
theorem agree_ok {x y : List En} (hx : RightS x) (hy : RightS y) {q : List UInt8} (h : getL x q = getL y q) : recon_Agree (x, (y, q)) = some true := by
  unfold recon_Agree
  dsimp only
  rw [right_back hx, Option.bind_some, if_neg (by simp), right_back hy, Option.bind_some, if_neg (by simp)]
  rcases find_cases hx q with ⟨g1, f1⟩ | ⟨k, hk, e1, g1, f1⟩
  · rcases find_cases hy q with ⟨g2, f2⟩ | ⟨k2, hk2, e2, g2, f2⟩
    · rw [f1, f2]; rfl
    · rw [g1, g2] at h; cases h
  · rcases find_cases hy q with ⟨g2, f2⟩ | ⟨k2, hk2, e2, g2, f2⟩
    · rw [g1, g2] at h; cases h
    · rw [g1, g2] at h
      have h := Option.some.inj h
      rw [f1, f2, Option.bind_some, Option.bind_some, if_neg (by simp), if_neg (by simp), ixL_nat hk, ixL_nat hk2, h]
      simp
/-- An entry, settled. -/
def newE (p : List UInt8) (take : Bool) (n : Int) (e1 e2 : En) : En := (p, ((if take then e2.2.1 else e1.2.1), ((if take then e2.2.2.1 else e1.2.2.1), tickZ (joinC e1.2.2.2 e2.2.2.2) n)))
inductive SettleR (a b : List En) (p : List UInt8) (take : Bool) (n : Int) : Prop
  | bad (e : Int) (he : e ≠ 0) (h : recon_Settle (a, (b, (p, (take, n)))) = some ([], e))
  | good (ra : RightS a) (rb : RightS b) (hm : mayP (mrg a b) = 0) (hp : p ∈ cnf a b) (k1 k2 : Nat) (h1 : k1 < a.length) (h2 : k2 < b.length) (p1 : a[k1].1 = p) (p2 : b[k2].1 = p) (f1 : scan_Find (a, p) = some (k1 : Int)) (f2 : scan_Find (b, p) = some (k2 : Int))
      (hc : ¬ ((tickZ (joinC a[k1].2.2.2 b[k2].2.2.2) n).1 = (joinC a[k1].2.2.2 b[k2].2.2.2).1 ∧ (tickZ (joinC a[k1].2.2.2 b[k2].2.2.2) n).2 = (joinC a[k1].2.2.2 b[k2].2.2.2).2)) (hs : mayP (a.set k1 (newE p take n a[k1] b[k2])) = 0)
      (h : recon_Settle (a, (b, (p, (take, n)))) = some (a.set k1 (newE p take n a[k1] b[k2]), 0))
theorem settle_all {a b : List En} (ha : Mid a) (hb : Mid b) {p : List UInt8} (hp : p.length ≤ 1000000) (take : Bool) (n : Int) : SettleR a b p take n := by
  have hu : recon_Settle (a, (b, (p, (take, n)))) = recon_Settle (a, (b, (p, (take, n)))) := rfl
  rcases merge_all ha hb with ⟨_, hm⟩ | ⟨_, _, h0, hm⟩ | ⟨ra, rb, h0, hm⟩
  · refine .bad 1 (by decide) ?_
    unfold recon_Settle
    dsimp only
    rw [hm]; rfl
  · refine .bad _ h0 ?_
    unfold recon_Settle
    dsimp only
    rw [hm, Option.bind_some, if_neg (by simpa using h0)]
  · have hcl := cnf_len a b ha hb
    by_cases hin : p ∈ cnf a b
    · obtain ⟨x, y, g1, g2, hxy⟩ := mem_cnf.1 hin
      rcases find_cases ra p with ⟨q1, _⟩ | ⟨k1, h1, p1, q1, f1⟩
      · rw [g1] at q1; cases q1
      rcases find_cases rb p with ⟨q2, _⟩ | ⟨k2, h2, p2, q2, f2⟩
      · rw [g2] at q2; cases q2
      have c1 := (ra.ok _ (List.getElem_mem h1)).cl
      have c2 := (rb.ok _ (List.getElem_mem h2)).cl
      have key : recon_Settle (a, (b, (p, (take, n)))) = (if ((tickZ (joinC a[k1].2.2.2 b[k2].2.2.2) n).1 = (joinC a[k1].2.2.2 b[k2].2.2.2).1 ∧ (tickZ (joinC a[k1].2.2.2 b[k2].2.2.2) n).2 = (joinC a[k1].2.2.2 b[k2].2.2.2).2) then some ([], 2) else if mayP (a.set k1 (newE p take n a[k1] b[k2])) = 0 then some (a.set k1 (newE p take n a[k1] b[k2]), 0) else some ([], mayP (a.set k1 (newE p take n a[k1] b[k2])))) := by
        unfold recon_Settle
        dsimp only
        rw [hm, Option.bind_some, if_pos (by rfl), contS_mem (b := true) (by omega) ⟨fun _ => hin, fun _ => rfl⟩, Option.bind_some, if_pos rfl, f1, Option.bind_some, f2, Option.bind_some, if_neg (by omega), if_neg (by omega), Int.toNat_natCast, Int.toNat_natCast, List.getElem?_eq_getElem h1, Option.bind_some, List.getElem?_eq_getElem h2, Option.bind_some, joined_ok c1 c2, Option.bind_some]
        dsimp only
        rw [clockTick_ok (join_ok' c1 c2)]
        have hpl : ∀ e ∈ a.set k1 (newE p take n a[k1] b[k2]), e.1.length ≤ 1000000 := fun e he => by
          rcases List.mem_or_eq_of_mem_set he with he | rfl
          · exact ha.p e he
          · exact hp
        rw [show (p, ((if take then b[k2].2.1 else a[k1].2.1), ((if take then b[k2].2.2.1 else a[k1].2.2.1), tickZ (joinC a[k1].2.2.2 b[k2].2.2.2) n))) = newE p take n a[k1] b[k2] from rfl, may_ok hpl (by rw [List.length_set]; have := ha.n; omega), Option.bind_some]
        split
        · rfl
        · split
          · rename_i h; rw [if_pos (by simpa using h)]
          · rename_i h; rw [if_neg (by simpa using h)]
      split at key
      · exact .bad 2 (by decide) key
      · rename_i hne
        split at key
        · rename_i hz
          exact .good ra rb h0 hin k1 k2 h1 h2 p1 p2 f1 f2 hne hz key
        · rename_i hz
          exact .bad _ hz key
    · refine .bad 3 (by decide) ?_
      unfold recon_Settle
      dsimp only
      rw [hm, Option.bind_some, if_pos (by rfl), contS_mem (b := false) (by omega) ⟨fun h => (by cases h), fun h => absurd h hin⟩]
      rfl
theorem tick_lt {c : Int × Int} (h : ClOk c) (n : Int) (hf : ¬ ((tickZ c n).1 = c.1 ∧ (tickZ c n).2 = c.2)) : ltC c (tickZ c n) := by
  obtain ⟨a, b, rfl, ha, hb⟩ := h.nat
  cases hn : oddB n with
  | true =>
    have e : tickZ ((a : Int), (b : Int)) n = ((a : Int), ((min (b + 1) 1073741824 : Nat) : Int)) := by simp [tickZ, tickN, hn]
    rw [e] at hf ⊢
    unfold ltC
    dsimp only at hf ⊢
    omega
  | false =>
    have e : tickZ ((a : Int), (b : Int)) n = (((min (a + 1) 1073741824 : Nat) : Int), (b : Int)) := by simp [tickZ, tickN, hn]
    rw [e] at hf ⊢
    unfold ltC
    dsimp only at hf ⊢
    omega
section
variable {a b : List En} {p : List UInt8} {take : Bool} {n : Int} {k1 k2 : Nat}
theorem set_getL (ha : AscE a) (h1 : k1 < a.length) {s : En} (hs : s.1 = a[k1].1) (q : List UInt8) : getL (a.set k1 s) q = if q = s.1 then some s else getL a q := by
  have hasc : AscE (a.set k1 s) := by
    have : (a.set k1 s).map (·.1) = a.map (·.1) := by
      rw [List.map_set, hs]
      have := List.set_getElem_self (show k1 < (a.map (·.1)).length by rw [List.length_map]; exact h1)
      rw [List.getElem_map] at this
      exact this
    unfold AscE Asc at ha ⊢
    have h2 : (a.map (·.1)).Pairwise Les := List.pairwise_map.2 ha
    rw [← this] at h2
    exact List.pairwise_map.1 h2
  by_cases hq : q = s.1
  · rw [if_pos hq, hq]
    exact getL_mem hasc (List.mem_iff_getElem.2 ⟨k1, by rw [List.length_set]; exact h1, by simp⟩)
  · rw [if_neg hq]
    cases hg : getL a q with
    | none =>
      refine getL_none.2 fun e he => ?_
      rcases List.mem_or_eq_of_mem_set he with he | rfl
      · exact getL_none.1 hg e he
      · exact fun e => hq e.symm
    | some e =>
      obtain ⟨he, hqe⟩ := getL_some hg
      obtain ⟨i, hi, rfl⟩ := List.getElem_of_mem he
      have hik : i ≠ k1 := by
        rintro rfl
        exact hq (hqe.symm.trans hs.symm)
      refine (getL_iff hasc).2 ⟨List.mem_iff_getElem.2 ⟨i, by rw [List.length_set]; exact hi, ?_⟩, hqe⟩
      rw [List.getElem_set_ne (fun e => hik e.symm)]
theorem set_asc (ha : AscE a) (h1 : k1 < a.length) {s : En} (hs : s.1 = a[k1].1) : AscE (a.set k1 s) := by
  have : (a.set k1 s).map (·.1) = a.map (·.1) := by
    rw [List.map_set, hs]
    have := List.set_getElem_self (show k1 < (a.map (·.1)).length by rw [List.length_map]; exact h1)
    rw [List.getElem_map] at this
    exact this
  unfold AscE Asc at ha ⊢
  have h2 : (a.map (·.1)).Pairwise Les := List.pairwise_map.2 ha
  rw [← this] at h2
  exact List.pairwise_map.1 h2
end
theorem newE_x {p : List UInt8} {take : Bool} {n : Int} {e1 e2 : En} (x1 : EnX e1) (x2 : EnX e2) (h : e1.1 = p) : EnX (newE p take n e1 e2) := by
  have hc := join_ok' x1.ok.cl x2.ok.cl
  unfold newE
  cases take with
  | true => exact ⟨⟨by rw [← h]; exact x1.ok.path, tickZ_ok hc n, tickZ_nz hc n, x2.ok.empty⟩, x2.d⟩
  | false => exact ⟨⟨by rw [← h]; exact x1.ok.path, tickZ_ok hc n, tickZ_nz hc n, x1.ok.empty⟩, x1.d⟩
/-- What Settle made, against the other side. -/
theorem settled {a b : List En} {p : List UInt8} {take : Bool} {n : Int} {k1 k2 : Nat} (ma : Mid a) (mb : Mid b) (ra : RightS a) (rb : RightS b) (hp : p ∈ cnf a b) (h1 : k1 < a.length) (h2 : k2 < b.length) (p1 : a[k1].1 = p) (p2 : b[k2].1 = p)
    (hc : ¬ ((tickZ (joinC a[k1].2.2.2 b[k2].2.2.2) n).1 = (joinC a[k1].2.2.2 b[k2].2.2.2).1 ∧ (tickZ (joinC a[k1].2.2.2 b[k2].2.2.2) n).2 = (joinC a[k1].2.2.2 b[k2].2.2.2).2)) (hs : mayP (a.set k1 (newE p take n a[k1] b[k2])) = 0) :
    ∃ S, S = a.set k1 (newE p take n a[k1] b[k2]) ∧ RightS S ∧ Mid S ∧ cnf S b = (cnf a b).erase p ∧ getL (mrg b S) p = getL S p := by
  refine ⟨_, rfl, ?_⟩
  have hsn : (newE p take n a[k1] b[k2]).1 = a[k1].1 := p1.symm
  have hasc := set_asc (RightS.asc ra) h1 hsn
  have hset := fun q => set_getL (RightS.asc ra) h1 hsn q
  obtain ⟨s, hse⟩ : ∃ s, s = newE p take n a[k1] b[k2] := ⟨_, rfl⟩
  rw [← hse] at hasc hset hs hsn ⊢
  have hsp : s.1 = p := hsn.trans p1
  rw [hsp] at hset
  have xa := right_x ra ma.p
  have xb := right_x rb mb.p
  have hpl : ∀ e ∈ a.set k1 s, e.1.length ≤ 1000000 := fun e he => by
    rcases List.mem_or_eq_of_mem_set he with he | rfl
    · exact ma.p e he
    · rw [hsn]; exact ma.p _ (List.getElem_mem h1)
  have hR : RightS (a.set k1 s) := right_of (by rw [List.length_set]; exact ra.len) hpl hasc (fun e he => by
    rcases List.mem_or_eq_of_mem_set he with he | rfl
    · exact xa e he
    · rw [hse]; exact newE_x (xa _ (List.getElem_mem h1)) (xb _ (List.getElem_mem h2)) p1) hs
  have hM : Mid (a.set k1 s) := ⟨by rw [List.length_set]; exact ma.n, hpl⟩
  have g2 : getL b p = some b[k2] := by
    have := getL_mem (RightS.asc rb) (List.getElem_mem h2)
    rw [p2] at this
    exact this
  have hlt : ltC b[k2].2.2.2 s.2.2.2 := by
    have hj := tick_lt (join_ok' (xa _ (List.getElem_mem h1)).ok.cl (xb _ (List.getElem_mem h2)).ok.cl) n hc
    have e : s.2.2.2 = tickZ (joinC a[k1].2.2.2 b[k2].2.2.2) n := by rw [hse]; rfl
    rw [e]
    unfold ltC at hj ⊢
    have : (joinC a[k1].2.2.2 b[k2].2.2.2).1 = max a[k1].2.2.2.1 b[k2].2.2.2.1 := rfl
    have : (joinC a[k1].2.2.2 b[k2].2.2.2).2 = max a[k1].2.2.2.2 b[k2].2.2.2.2 := rfl
    omega
  have hcome : comeP s b[k2] = (s, false) := come_up (hsp.trans p2.symm) (by unfold ltC at hlt; omega) (.inl hlt)
  refine ⟨hR, hM, ?_, ?_⟩
  · refine up_eq (up_cnf _ _) ((up_cnf a b).sublist List.erase_sublist) fun q => ?_
    rw [List.Nodup.mem_erase_iff (Up.nodup (up_cnf a b)), mem_cnf, mem_cnf]
    constructor
    · rintro ⟨x, y, g, g', hxy⟩
      rw [hset] at g
      by_cases hq : q = p
      · subst hq
        rw [if_pos rfl] at g
        rw [g2] at g'
        cases g; cases g'
        rw [hcome] at hxy
        cases hxy
      · rw [if_neg hq] at g
        exact ⟨hq, x, y, g, g', hxy⟩
    · rintro ⟨hq, x, y, g, g', hxy⟩
      exact ⟨x, y, by rw [hset, if_neg hq]; exact g, g', hxy⟩
  · rw [getL_mrg, hset, if_pos rfl, g2]
    have hcm := come_comm (hsp.trans p2.symm)
    rw [hcome] at hcm
    show some (comeP b[k2] s).1 = some s
    rw [← hcm.2 rfl]
theorem wrap_pred {k : Nat} (h0 : 0 < k) (h : k ≤ 1000) : IntKind.wrap .i64 ((k : Int) - 1) = ((k - 1 : Nat) : Int) := by rw [wrapI (by omega) (by omega)]; omega
theorem settles_ok (x : List En × (List En × (List UInt8 × (Bool × Int)))) : law10_ReconSettles x = some true := by
  obtain ⟨a, b, p, take, n⟩ := x
  unfold law10_ReconSettles
  dsimp only
  rw [small_ok, Option.bind_some, few9_ok, Option.bind_some, few9_ok, Option.bind_some]
  cases hf : (decide (a.length ≤ 60) && a.all okEn) with
  | false => rfl
  | true =>
  rw [if_neg (by simp)]
  cases hg : (decide (b.length ≤ 60) && b.all okEn) with
  | false => rfl
  | true =>
  rw [if_neg (by simp)]
  by_cases hpl' : decide ((p.length : Int) > 100) = true
  · rw [if_pos hpl']
  rw [if_neg hpl']
  have hpl : p.length ≤ 100 := by simp at hpl'; omega
  have ma := (few_small hf).mid
  have mb := (few_small hg).mid
  rcases settle_all ma mb (p := p) (by omega) take n with ⟨e, he, h⟩ | ⟨ra, rb, hm, hp, k1, k2, h1, h2, p1, p2, f1, f2, hc, hs, h⟩
  · rw [h, Option.bind_some, if_pos (by simpa using he)]
    rfl
  · obtain ⟨S, hS, rS, mS, hcnf, hget⟩ := settled (take := take) ma mb ra rb hp h1 h2 p1 p2 hc hs
    rw [← hS] at h
    have hcl := cnf_len a b ma mb
    have hSl : S.length = a.length := by rw [hS, List.length_set]
    have hk1 : k1 < S.length := by omega
    have hSk : S[k1] = newE p take n a[k1] b[k2] := by simp [hS]
    have hSo : ∀ i, (hi : i < S.length) → i ≠ k1 → S[i] = a[i]'(by omega) := fun i hi hne => by
      have : S[i] = (a.set k1 (newE p take n a[k1] b[k2]))[i]'(by rw [← hS]; exact hi) := by simp only [hS]
      rw [this, List.getElem_set_ne (fun e => hne e.symm)]
    have fS : scan_Find (S, p) = some (k1 : Int) := by
      have hpS : S[k1].1 = p := by rw [hSk]; rfl
      rw [← hpS]
      exact find_some (right_back rS) (by have := rS.len; omega) hk1 fun i hi hne => asc_ne (RightS.asc rS) hi hk1 hne
    have hpos : 0 < (cnf a b).length := List.length_pos_of_mem hp
    have hlen : (cnf S b).length = (cnf a b).length - 1 := by rw [hcnf, List.length_erase_of_mem hp]
    have hno : p ∉ cnf S b := by
      rw [hcnf, List.Nodup.mem_erase_iff (Up.nodup (up_cnf a b))]
      exact fun h => h.1 rfl
    have hno' : p ∉ cnf b S := by rw [cnf_comm]; exact hno
    have hcl2 := cnf_len S b mS mb
    have hcl3 := cnf_len b S mb mS
    -- the end
    have tail : ((recon_Merge (S, b)).bind fun r18 => (recon_Merge (b, S)).bind fun r19 =>
        if true = true then
          if (r18.2.2 != 0) = true then
            if (r19.2.2 != 0) = true then some true
            else (law10_has (r19.2.1, p)).bind fun r20 => if (!r20) = true then (recon_Agree (r19.1, (S, p))).bind fun r21 => some r21 else some false
          else (law10_has (r18.2.1, p)).bind fun r22 =>
            if (!r22) = true then
              if ((r18.2.1.length : Int) == (IntKind.wrap .i64 (((cnf a b).length : Int) - 1))) = true then
                if (r19.2.2 != 0) = true then some true
                else (law10_has (r19.2.1, p)).bind fun r23 => if (!r23) = true then (recon_Agree (r19.1, (S, p))).bind fun r24 => some r24 else some false
              else some false
            else some false
        else some false) = some true := by
      have t2 : ∀ m, recon_Merge (b, S) = some m → m.2.2 = 0 → ((law10_has (m.2.1, p)).bind fun r20 => if (!r20) = true then (recon_Agree (m.1, (S, p))).bind fun r21 => some r21 else some false) = some true := by
        intro m hmm hz
        rcases merge_all mb mS with ⟨hno, q⟩ | ⟨_, _, hq, q⟩ | ⟨_, _, hq, q⟩
        · exact absurd ⟨right_back rb, right_back rS⟩ hno
        · rw [q] at hmm
          cases hmm
          exact absurd hz hq
        · rw [q] at hmm
          cases hmm
          rw [has_mem (b := false) (by omega) ⟨fun h => (by cases h), fun h => absurd h hno'⟩, Option.bind_some, if_pos (by rfl), agree_ok (mrg_right mb mS rb rS hq) rS hget]
          rfl
      obtain ⟨m2, hm2⟩ : ∃ m, recon_Merge (b, S) = some m := by
        rcases merge_all mb mS with ⟨hno, q⟩ | ⟨_, _, hq, q⟩ | ⟨_, _, hq, q⟩ <;> exact ⟨_, q⟩
      rcases merge_all mS mb with ⟨hno, q⟩ | ⟨_, _, hq, q⟩ | ⟨_, _, hq, q⟩
      · exact absurd ⟨right_back rS, right_back rb⟩ hno
      · rw [q, Option.bind_some, hm2, Option.bind_some, if_pos rfl, if_pos (by simpa using hq)]
        split
        · rfl
        · rename_i hz
          exact t2 m2 hm2 (by simpa using hz)
      · rw [q, Option.bind_some, hm2, Option.bind_some, if_pos rfl, if_neg (by simp), has_mem (b := false) (by omega) ⟨fun h => (by cases h), fun h => absurd h hno⟩, Option.bind_some, if_pos (by rfl), wrap_pred hpos (by omega), hlen, if_pos (by simp)]
        split
        · rfl
        · rename_i hz
          exact t2 m2 hm2 (by simpa using hz)
    have hmab := merge_good ma mb ra rb hm
    rw [h, Option.bind_some, if_neg (by simp), hmab, Option.bind_some, right_back rS, Option.bind_some, if_neg (by simp), if_neg (by rw [hSl]; simp), has_mem (b := true) (by omega) ⟨fun _ => hp, fun _ => rfl⟩, Option.bind_some, if_neg (by simp)]
    cases take with
    | true =>
      rw [if_pos rfl, fS, Option.bind_some, f2, Option.bind_some, if_neg (by simp), if_neg (by simp), ixL_nat hk1, ixL_nat h2, if_neg (by rw [hSk]; simp [newE]), ixL_nat hk1, ixL_nat h2, if_neg (by rw [hSk]; simp [newE])]
      refine loop_true S.length (by have := rS.len; omega) (fun again => ?_) fun i hi again hg => ?_
      · rw [if_neg (by simp)]
        exact tail
      · rw [if_pos (by simp; omega), wrap_succ (by have := rS.len; omega)]
        split
        · rename_i hne
          have hne : i ≠ k1 := by
            rintro rfl
            simp at hne
          rw [ixL_nat hi, ixL_nat (by omega), hSo i hi hne, if_neg (by simp), hg]
        · exact hg
    | false =>
      rw [if_neg (by simp), fS, Option.bind_some, f1, Option.bind_some, if_neg (by simp), if_neg (by simp), ixL_nat hk1, ixL_nat h1, if_neg (by rw [hSk]; simp [newE]), ixL_nat hk1, ixL_nat h1, if_neg (by rw [hSk]; simp [newE])]
      refine loop_true S.length (by have := rS.len; omega) (fun again => ?_) fun i hi again hg => ?_
      · rw [if_neg (by simp)]
        exact tail
      · rw [if_pos (by simp; omega), wrap_succ (by have := rS.len; omega)]
        split
        · rename_i hne
          have hne : i ≠ k1 := by
            rintro rfl
            simp at hne
          rw [ixL_nat hi, ixL_nat (by omega), hSo i hi hne, if_neg (by simp), hg]
        · exact hg
end Go.Proofs.W.Q10
