/- recon.Merge, walked. -/
import Derived.Test.YtckammfgogiplaaGreatDoorK23
import Derived.Test.YtckammfgogiplaaGreatDoorK24
import Derived.Sort.OwnSorted
namespace Go.Proofs.V.R10
open Go Go.Proofs Go.RowKit Go.Maps
set_option linter.unusedVariables false
set_option linter.unusedSimpArgs false
/-- What comes of an entry of both, an entry of one. -/
def joinG (co : En → En → En × Bool) (g1 g2 : List UInt8 → Option En) (q : List UInt8) : Option En :=
  match g2 q with
  | none => g1 q
  | some b => match g1 q with
    | none => some b
    | some a => some (co a b).1
def confG (co : En → En → En × Bool) (g1 g2 : List UInt8 → Option En) (q : List UInt8) : Bool :=
  match g1 q, g2 q with
  | some a, some b => (co a b).2
  | _, _ => false
/-- The same, while entries are still to come. -/
def leftG (co : En → En → En × Bool) (g1 g2 : List UInt8 → Option En) (left : Lit → Bool) (q : List UInt8) : Option En := if left (.string q) then g1 q else joinG co g1 g2 q
structure CsOk (co : En → En → En × Bool) (g1 g2 : List UInt8 → Option En) (left : Lit → Bool) (cs : List (List UInt8)) : Prop where
  nd : cs.Nodup
  mem : ∀ q, q ∈ cs ↔ (left (.string q) = false ∧ confG co g1 g2 q = true)
structure MHyp (w : World) (v1 v2 : Value) (l1 l2 : List En) (r1 r2 : Bool) (co : En → En → En × Bool) (mayE : List En → Int) : Prop where
  s1 : Sl w v1 l1
  s2 : Sl w v2 l2
  n1 : l1.length ≤ 64
  n2 : l2.length ≤ 64
  p1 : ∀ e ∈ l1, e.1.length ≤ maxLen
  p2 : ∀ e ∈ l2, e.1.length ≤ maxLen
  right : ∀ v r wr, ((v = v1 ∧ r = r1) ∨ (v = v2 ∧ r = r2)) → Below w.heap.size w wr → Calls Tryz.prog 25 #[v] wr fun e w' => e = .returned (.bool r) ∧ Below w.heap.size w w'
  come : ∀ q a b, gR l1 q = some a → gR l2 q = some b → ∀ wr, Calls Tryz.prog 35 #[valE a, valE b] wr fun e w' => e = .returned (.tuple #[.agg #[.string ⟨⟨(co a b).1.1⟩⟩, .bool (co a b).1.2.1, .string ⟨⟨(co a b).1.2.2.1⟩⟩, .int .i64 (co a b).1.2.2.2.1, .int .i64 (co a b).1.2.2.2.2], .bool (co a b).2]) ∧ Below wr.heap.size wr w'
  may : ∀ ks : List (List UInt8), ks.Pairwise (fun x y => leB x y = true) → ks.Nodup → (∀ q, q ∈ ks ↔ (joinG co (gR l1) (gR l2) q).isSome = true) → ∀ v wr, Sl wr v (ks.map fun q => lookE (joinG co (gR l1) (gR l2)) q) → Calls Tryz.prog 38 #[v] wr fun e w' => e = .returned (.int .i64 (mayE (ks.map fun q => lookE (joinG co (gR l1) (gR l2)) q))) ∧ Below wr.heap.size wr w'
theorem below_trans {a b c : World} (h : Below a.heap.size a b) (k : Below b.heap.size b c) : Below a.heap.size a c := h.trans (k.mono h.size)
theorem known2 {w : World} {v1 v2 : Value} {l1 l2 : List En} {r1 r2 : Bool} {co : En → En → En × Bool} {mayE : List En → Int} (H : MHyp w v1 v2 l1 l2 r1 r2 co mayE) (v : Value) (l : List En) (wr : World) (hv : (v = v1 ∧ l = l1) ∨ (v = v2 ∧ l = l2)) (hb : Below w.heap.size w wr) :
    Calls Tryz.prog 34 #[v] wr fun e w' => e = .returned (.map (some wr.heap.size)) ∧ (∃ D, Reads D (gR l) ∧ w'.ownsMap Tryz.prog 9 RV wr.heap.size l.length D) ∧ Below w.heap.size w w' ∧ Below wr.heap.size wr w' := by
  rcases hv with ⟨rfl, rfl⟩ | ⟨rfl, rfl⟩
  · exact (known_calls (H.s1.below hb) H.n1 H.p1).mono fun e w' ⟨h1, h2, h3⟩ => ⟨h1, h2, below_trans hb h3, h3⟩
  · exact (known_calls (H.s2.below hb) H.n2 H.p2).mono fun e w' ⟨h1, h2, h3⟩ => ⟨h1, h2, below_trans hb h3, h3⟩
theorem grown_of {a b : World} (h : Below a.heap.size a b) : a.grownBy b none := ⟨h.os, h.tape, h.output, h.size, fun i hi _ => h.block i hi⟩
section
variable {co : En → En → En × Bool} {g1 g2 : List UInt8 → Option En} {left : Lit → Bool} {x : List UInt8} {e2 : En}
theorem leftG_left (hl : left (.string x) = true) {v : Option En} (h : leftG co g1 g2 left x = v) : g1 x = v := by
  unfold leftG at h
  rwa [if_pos hl] at h
theorem apart_iter {v : Value} {k r : Nat} (h : ∀ j, v.ownBlock = some j → k + 1 ≤ j) (hr : r ≤ k) : v.ownBlock = none ∨ v.ownBlock ≠ some r := by
  cases hv : v.ownBlock with
  | none => exact .inl rfl
  | some j => exact .inr fun e => by have := h j hv; cases e; omega
theorem apart_none (v : Value) : v.ownBlock = none ∨ v.ownBlock ≠ none := Classical.em _
def strike (left : Lit → Bool) (x : List UInt8) : Lit → Bool := fun z => left z && !z.sameKey (.string x)
theorem strike_self : strike left x (.string x) = false := by simp [strike, Lit.sameKey]
theorem strike_ne {q : List UInt8} (h : ¬ q = x) : strike left x (.string q) = left (.string q) := by
  have : Lit.sameKey (.string q) (.string x) = false := by simp [Lit.sameKey, h]
  simp [strike, this]
theorem leftG_strike (v : Option En) (hv : v = joinG co g1 g2 x) : (fun q => if q = x then v else leftG co g1 g2 left q) = leftG co g1 g2 (strike left x) := by
  funext q
  by_cases h : q = x
  · subst h
    unfold leftG
    rw [strike_self, if_pos rfl, if_neg (by simp), hv]
  · unfold leftG
    rw [strike_ne h, if_neg h]
theorem cs_keep {cs : List (List UInt8)} (h : CsOk co g1 g2 left cs) (hc : confG co g1 g2 x = false) : CsOk co g1 g2 (strike left x) cs := by
  refine ⟨h.nd, fun q => ?_⟩
  rw [h.mem]
  by_cases hq : q = x
  · subst hq
    simp [hc]
  · rw [strike_ne hq]
theorem cs_add {cs : List (List UInt8)} (h : CsOk co g1 g2 left cs) (hl : left (.string x) = true) (hc : confG co g1 g2 x = true) : CsOk co g1 g2 (strike left x) (cs ++ [x]) := by
  have hn : x ∉ cs := fun hx => by have := ((h.mem x).1 hx).1; rw [hl] at this; cases this
  refine ⟨List.nodup_append.2 ⟨h.nd, by simp, fun a ha b hb => by simp at hb; subst hb; exact fun e => hn (e ▸ ha)⟩, fun q => ?_⟩
  by_cases hq : q = x
  · subst hq
    simp [hc, strike_self]
  · rw [strike_ne hq]
    simp [hq, h.mem]
end
theorem info9 : (Tryz.prog.info? 9).map (fun i => (i.zero, i.size, i.bytes)) = some (some (.string ByteArray.empty), 1, 16) := by kernel_rfl
theorem info34 : (Tryz.prog.info? 34).map (fun i => (i.zero, i.size, i.bytes)) = some (some (valE zeroE), 5, 56) := by kernel_rfl
theorem sort_calls {wr : World} {base : Nat} {v : Value} {cs : List (List UInt8)} (hrow : wr.ownsRow base 9 1 v cs.length (cs.map encStr)) (hl : cs.length ≤ 1000) :
    Calls Tryz.prog 39 #[v] wr fun e w' => e = .returned (.tuple #[]) ∧ w'.ownsRow base 9 1 v cs.length ((cs.mergeSort fun x y => decide (x ≤ y)).map encStr) ∧ wr.grownBy w' v.ownBlock := by
  have hrow' := hrow
  rcases hrow.2 with ⟨rfl, h0⟩ | ⟨g, cap, cur, rfl, hbase, hb, h1, h2, h3, h4⟩
  · have hc : cs = [] := List.eq_nil_of_length_eq_zero h0
    subst hc
    exact (AnyM.slices_Sort_string_none Tryz.sort39 none 0 wr).mono fun e w' ⟨h, hw⟩ => ⟨h, by rw [hw]; simpa using hrow', by rw [hw]; exact ⟨rfl, rfl, rfl, Nat.le_refl _, fun _ _ _ => rfl⟩⟩
  · refine (AnyM.slices_Sort_string Tryz.sort39 g 0 cap cs wr (holds_of_block hb (by simpa using h4)) (Array.getElem?_eq_some_iff.1 hb).1 (by omega)).mono ?_
    rintro e w' ⟨he, n, os, rfl⟩
    exact ⟨he, ownsRow_sorted (by simp) hbase hb h1 h2 h3, grownBy_sorted _⟩
/-- The cells of entries. -/
def cellsE (e : En) : List Value := [.string ⟨⟨e.1⟩⟩, .bool e.2.1, .string ⟨⟨e.2.2.1⟩⟩, .int .i64 e.2.2.2.1, .int .i64 e.2.2.2.2]
theorem cellsE_len (l : List En) : (l.flatMap cellsE).length = l.length * 5 := by
  induction l with
  | nil => rfl
  | cons e l ih => rw [List.flatMap_cons, List.length_append, ih]; simp [cellsE]; omega
theorem cellsE_at {l : List En} {i : Nat} {e : En} (h : l[i]? = some e) (j : Nat) (hj : j < 5) : (l.flatMap cellsE)[i * 5 + j]? = (cellsE e)[j]? := by
  induction l generalizing i with
  | nil => simp at h
  | cons a l ih =>
    rw [List.flatMap_cons]
    have ha : (cellsE a).length = 5 := rfl
    cases i with
    | zero =>
      simp at h; subst h
      rw [List.getElem?_append_left (by rw [ha]; omega)]; simp
    | succ i =>
      rw [List.getElem?_append_right (by rw [ha]; omega), ha]
      have := ih (i := i) (by simpa using h)
      rw [← this]; congr 1; omega
theorem addr_add (g k : Nat) : (⟨g, 0, none⟩ : Addr).add k = ⟨g, k, none⟩ := by
  unfold Addr.add
  split
  · rename_i h; subst h; rfl
  · simp
theorem sl_of_owns {wr : World} {base : Nat} {v : Value} {l : List En} (h : wr.ownsRow base 34 5 v l.length (l.flatMap cellsE)) : Sl wr v l := by
  have h' := h
  rcases h.2 with ⟨rfl, h0⟩ | ⟨g, cap, cur, rfl, hbase, hb, h1, h2, h3, h4⟩
  · exact .inl ⟨rfl, List.eq_nil_of_length_eq_zero h0⟩
  · have key : ∀ (i : Nat) (e : En), l[i]? = some e → ∀ j, j < 5 → ∀ u, (cellsE e)[j]? = some u → wr.cell? ⟨g, 0 + i * 5 + j, none⟩ = some u := fun i e he j hj u hu => by
      have := h'.cells (g := g) rfl (i * 5 + j) u (by rw [cellsE_at he j hj]; exact hu)
      rw [addr_add] at this
      rw [Nat.zero_add]; exact this
    exact .inr ⟨g, 0, cap, rfl, h1, fun i e he => by simpa using key i e he 0 (by omega) _ rfl, fun i e he => key i e he 1 (by omega) _ rfl, fun i e he => key i e he 2 (by omega) _ rfl, fun i e he => key i e he 3 (by omega) _ rfl, fun i e he => key i e he 4 (by omega) _ rfl⟩
theorem cell_five (w : World) (a b c d e : Value) (t : TypeId) : ∀ j u, [a, b, c, d, e][j]? = some u → (w.alloc (.cells #[a, b, c, d, e] t)).cell? ((⟨w.heap.size, 0, none⟩ : Addr).add j) = some u := by
  intro j u hj
  match j, hj with
  | 0, hj => simp at hj; subst hj; simp [Addr.add]
  | 1, hj => simp at hj; subst hj; simp [Addr.add]
  | 2, hj => simp at hj; subst hj; simp [Addr.add]
  | 3, hj => simp at hj; subst hj; simp [Addr.add]
  | 4, hj => simp at hj; subst hj; simp [Addr.add]
  | (j + 5), hj => simp at hj
theorem slice_form {w : World} {base n : Nat} {e size : Nat} {v : Value} {xs : List Value} (h : w.ownsRow base e size v n xs) : ∃ ao cv, v = .slice ao n cv ∧ (0 < n → ∃ g, ao = some ⟨g, 0, none⟩) := by
  rcases h.2 with ⟨rfl, h0⟩ | ⟨g, cap, cur, rfl, _⟩
  · exact ⟨none, 0, by rw [h0], fun h => by omega⟩
  · exact ⟨_, cap, rfl, fun _ => ⟨g, rfl⟩⟩
theorem strKeys_len {D : DataW Value} (h : IsMap D) : (strKeys D).length = Maps.size D := by
  obtain ⟨es, rfl⟩ := h
  show (es.map _).length = es.length
  simp
theorem strKeys_facts {w : World} {b n : Nat} {D : DataW Value} (hown : w.ownsMap Tryz.prog 9 RV b n D) : (strKeys D).Nodup ∧ ∀ x, x ∈ strKeys D ↔ has D (.string x) = true := by
  obtain ⟨es, hD, hp, _⟩ := hown.entries law9
  obtain ⟨es', hD', hko⟩ := hown.keysOf
  obtain rfl : es = es' := by rw [hD] at hD'; simpa using hD'
  subst hD
  have hk : ∀ p ∈ es, ∃ x, p.1 = .string x := fun p hp => by obtain ⟨v, hv⟩ := hko p hp; obtain ⟨x, _, hx, _⟩ := Maps.keyOf_str Tryz.underlying9 hv; exact ⟨x, hx⟩
  refine ⟨?_, fun x => ?_⟩
  · show (es.map fun p => strOf p.1).Nodup
    refine List.pairwise_map.2 (hp.imp_of_mem fun {p q} hp' hq' hne e => hne ?_)
    obtain ⟨a, ha⟩ := hk p hp'
    obtain ⟨b, hb⟩ := hk q hq'
    rw [ha, hb] at e ⊢
    exact congrArg _ e
  · rw [has_eq, List.any_eq_true]
    show x ∈ es.map (fun p => strOf p.1) ↔ _
    rw [List.mem_map]
    constructor
    · rintro ⟨p, hp', rfl⟩
      obtain ⟨a, ha⟩ := hk p hp'
      exact ⟨p, hp', by rw [ha]; simp [Lit.sameKey, strOf]⟩
    · rintro ⟨p, hp', hs⟩
      obtain ⟨a, ha⟩ := hk p hp'
      rw [ha] at hs
      exact ⟨p, hp', by rw [ha]; simpa [Lit.sameKey, strOf] using hs⟩
theorem leB_sorted (l : List (List UInt8)) : (l.mergeSort leB).Pairwise (fun x y => leB x y = true) := by
  have tr : ∀ a b c : List UInt8, leB a b = true → leB b c = true → leB a c = true := fun a b c h1 h2 => by simp only [leB, decide_eq_true_eq] at *; exact List.le_trans h1 h2
  have to : ∀ a b : List UInt8, (leB a b || leB b a) = true := fun a b => by simp only [leB, Bool.or_eq_true, decide_eq_true_eq]; exact List.le_total a b
  exact List.pairwise_mergeSort tr to l
/-- What Merge hands over. -/
def MPost (w : World) (l1 l2 : List En) (co : En → En → En × Bool) (mayE : List En → Int) (e : Ending) (w' : World) : Prop :=
  Below w.heap.size w w' ∧ ∃ ks : List (List UInt8), ks.Pairwise (fun x y => leB x y = true) ∧ ks.Nodup ∧ (∀ q, q ∈ ks ↔ (joinG co (gR l1) (gR l2) q).isSome = true) ∧
    ((mayE (ks.map fun q => lookE (joinG co (gR l1) (gR l2)) q) ≠ 0 ∧ e = .returned (.tuple #[.slice none 0 0, .slice none 0 0, .int .i64 (mayE (ks.map fun q => lookE (joinG co (gR l1) (gR l2)) q))])) ∨
     (mayE (ks.map fun q => lookE (joinG co (gR l1) (gR l2)) q) = 0 ∧ ∃ (vo vc : Value) (cs : List (List UInt8)), e = .returned (.tuple #[vo, vc, .int .i64 0]) ∧ w'.ownsRow w.heap.size 34 5 vo ks.length ((ks.map fun q => lookE (joinG co (gR l1) (gR l2)) q).flatMap cellsE) ∧
        w'.ownsRow w.heap.size 9 1 vc cs.length (cs.map encStr) ∧ cs.Pairwise (fun x y => leB x y = true) ∧ cs.Nodup ∧ (∀ q, q ∈ cs ↔ confG co (gR l1) (gR l2) q = true) ∧ (∀ a b, vo.ownBlock = some a → vc.ownBlock = some b → b < a) ∧ (ks = [] → vo = .slice none 0 0) ∧ (cs = [] → vc = .slice none 0 0)))
theorem owns_base {w : World} {B B' : Nat} {e size n : Nat} {v : Value} {xs : List Value} (h : w.ownsRow B e size v n xs) (hB : B' ≤ B) : w.ownsRow B' e size v n xs := by
  refine ⟨h.1, ?_⟩
  rcases h.2 with h | ⟨g, cap, cur, h1, h2, h3⟩
  · exact .inl h
  · exact .inr ⟨g, cap, cur, h1, Nat.le_trans hB h2, h3⟩
theorem size_le {w : World} {b n : Nat} {D : DataW Value} (h : w.ownsMap Tryz.prog 9 RV b n D) : Maps.size D ≤ n := by
  obtain ⟨es, clock, hb, F, hs, rfl⟩ := h
  show ((es.toList.map _).foldr DataW.insert []).length ≤ n
  rw [length_sorted]
  simpa using hs
set_option maxRecDepth 100000 in
set_option maxHeartbeats 4000000 in
theorem merge_walk (w : World) (v1 v2 : Value) (l1 l2 : List En) (r1 r2 : Bool) (co : En → En → En × Bool) (mayE : List En → Int) (H : MHyp w v1 v2 l1 l2 r1 r2 co mayE) (hr1 : r1 = true) (hr2 : r2 = true) :
    Calls Tryz.prog 13 #[v1, v2] w fun e w' => MPost w l1 l2 co mayE e w' := by
  subst hr1; subst hr2
  go_enter Tryz.func13, Tryz.ntmps13
  have m1 : True := trivial
  have m2 : True := trivial
  go_wp2_with (first
    | (go_at_call 25; clear m1; refine (H.right _ true _ (by first | exact .inl ⟨rfl, rfl⟩ | exact .inr ⟨rfl, rfl⟩) (Below.refl _ _)).mono ?_; rintro e w0 ⟨rfl, hb0⟩)
    | (go_at_call 25; refine (H.right _ true _ (by first | exact .inl ⟨rfl, rfl⟩ | exact .inr ⟨rfl, rfl⟩) hb0).mono ?_; rintro e w1 ⟨rfl, hb1⟩)
    | (go_at_call 34; clear m2; refine (known2 H _ _ _ (by first | exact .inl ⟨rfl, rfl⟩ | exact .inr ⟨rfl, rfl⟩) hb1).mono ?_; rintro e wA ⟨rfl, ⟨D1, hD1, hown1⟩, hbA, hbA'⟩)
    | (go_at_call 34; refine (known2 H _ _ _ (by first | exact .inl ⟨rfl, rfl⟩ | exact .inr ⟨rfl, rfl⟩) hbA).mono ?_; rintro e wB ⟨rfl, ⟨D2, hD2, hown2⟩, hbB, hbB'⟩)
    | (at_range; refine wpList_range_own _ rfl _ 61 rfl 9 34 law9 Tryz.underlying61 RV wA.heap.size l2.length D2 rfl hown2 ?_; intro w4 hrg4 hg4 hs4))
  go_frame
  have l1A := hown1.lt
  have lAB := hown2.lt
  have hownA : wB.ownsMap Tryz.prog 9 RV w1.heap.size l1.length D1 := by
    obtain ⟨es, clock, hb, F, hs, hd⟩ := hown1
    exact ⟨es, clock, (hbB'.block _ l1A).trans hb, F, hs, hd⟩
  have hsB := hbB.size
  go_loopw [9] (fun v9 wr => ∃ (left : Lit → Bool) (cnt nn : Nat) (D : DataW Value) (cs : List (List UInt8)), wr.ranges Tryz.prog 9 RV wA.heap.size wB.heap.size l2.length D2 left cnt ∧ wr.ownsMap Tryz.prog 9 RV w1.heap.size nn D ∧ nn + cnt ≤ 128 ∧ Reads D (leftG co (gR l1) (gR l2) left) ∧
      wr.ownsRow (wB.heap.size + 1) 9 1 v9 cs.length (cs.map encStr) ∧ cs.length + cnt ≤ 64 ∧ CsOk co (gR l1) (gR l2) left cs ∧ Below w.heap.size w wr ∧ wB.heap.size < wr.heap.size ∧ (cs = [] → v9 = .slice none 0 0))
    (fun _ wr => wr.rangeLeft wA.heap.size wB.heap.size)
  case atStart =>
    have hcnt := ranges_cnt hrg4
    have hn1 := H.n1
    have hn2 := H.n2
    refine ⟨_, _, l1.length, D1, [], hrg4, hownA.kept hg4 (by simp), by omega, ?_, World.ownsRow_nil _ _ _ _, by simp; omega, ⟨List.nodup_nil, fun q => ?_⟩, hbB.grown hg4 hbB.size (by simp), by omega, fun _ => rfl⟩
    · have : leftG co (gR l1) (gR l2) (has D2) = gR l1 := by
        funext q
        unfold leftG
        rw [hD2.h]
        cases h : gR l2 q with
        | none => simp [joinG, h]
        | some e => simp
      rw [this]; exact hD1
    · rw [hD2.h]
      cases h : gR l2 q with
      | none => simp [confG, h]
      | some e => simp
  case round =>
    obtain ⟨left, cnt, nn, D, cs, hrg, hown, hnn, hD, hrow, hcs, hC, hbw, hlB, hnl⟩ := hrel
    have hsz := hbw.size
    have hrl := hrow.lt
    obtain ⟨i0, hi, hz0, hz1, hz2⟩ := info_parts info9
    have hrl2 : ∀ j, Value.ownBlock u9 = some j → wB.heap.size + 1 ≤ j := fun j hj => (hrl j hj).1
    have l1B : w1.heap.size < wB.heap.size := by omega
    have sw1 := hb1.size
    go_wp2_with (first
      | (at_next; refine wpList_nextE rfl _ rfl rfl hrg hD2 (fun h0 hl0 => ?_) (fun x e2 w5 cnt5 hx hg2 hlx hrg5 hlt5 hgr5 hsz5 hen => ?_))
      | (at_lookup; refine wpList_look2 rfl _ _ rfl x ((hown.kept hgr5 (by simp; omega)).alloc _) hD hx rfl rfl (fun e1 hq => ?_) (fun hq => ?_))
      | (go_at_call 35; refine (H.come x e1 e2 (leftG_left hlx hq) hg2 _).mono ?_; rintro e wc ⟨rfl, hbc⟩)
      | (at_mapUpdate; refine wpList_set rfl _ _ _ rfl x (co e1 e2).1 (((((hown.kept hgr5 (by simp; omega)).alloc _).alloc _).kept (grown_of hbc) (by simp)).alloc _) hD hx (by unfold maxLen; omega) rfl rfl rfl (fun w6 D6 hown6 hD6 hgr6 => ?_))
      | (at_mapUpdate; refine wpList_set rfl _ _ _ rfl x e2 (((hown.kept hgr5 (by simp; omega)).alloc _).alloc _) hD hx (by unfold maxLen; omega) rfl rfl rfl (fun w6 D6 hown6 hD6 hgr6 => ?_))
      | (at_builtin; refine wpList_append_own _ rfl _ _ 25 rfl (wB.heap.size + 1) 9 i0 (.string ByteArray.empty) 1 16 Tryz.underlying25 hi hz0 hz1 hz2 rfl (by decide) _ _ _ rfl
          ((((((((hrow.kept hgr5 (apart_iter hrl2 (Nat.le_refl _))).alloc _).alloc _).kept (grown_of hbc) (apart_none _)).alloc _).kept hgr6 (apart_iter hrl2 (Nat.le_of_lt l1B))).alloc _)) ⟨w6.heap.size, 0, none⟩ 1 1 [.string ⟨⟨x⟩⟩] rfl rfl (cell_one_new _ _ _) (fun u hu => by simp at hu; subst hu; rfl) (by unfold maxLen; omega) (by omega) (by have := hgr6.size; have := hbc.size; simp at *; omega) (fun v7 w7 hrow7 hgr7 hnil7 => ?_)))
    · have hG : leftG co (gR l1) (gR l2) left = joinG co (gR l1) (gR l2) := by
        funext q
        unfold leftG
        rw [hl0]; rfl
      rw [hG] at hD
      have hsD := size_le hown
      go_wp2_with (first
        | (go_at_call 37; refine (callsIn_wide.1 (Tryz.maps_Keys_37 (some w1.heap.size) _)).mono ?_; rintro e w8 ⟨rfl, rfl⟩)
        | (go_at_call 36; refine (callsIn_wide.1 (Tryz.slices_Sorted_keys_36_37 w1.heap.size nn D RV wr hown (by unfold maxLen; omega) (by omega))).mono ?_; rintro e w9 ⟨vS, ss, rfl, hperm, hrowS, hnil, hb9⟩; obtain ⟨ao, cv, hvS, hao⟩ := slice_form hrowS; subst hvS))
      have hown9 := (hown.alloc _).kept (grown_of hb9) (by simp)
      have hrow9 := (hrow.alloc _).kept (grown_of hb9) (apart_none _)
      have hbw9 := below_trans (hbw.alloc hbw.size _) hb9
      obtain ⟨ks, hks⟩ : ∃ ks, ks = ss.mergeSort fun x y => decide (x ≤ y) := ⟨_, rfl⟩
      have hkl : ks.length = ss.length := by rw [hks]; simp
      rw [← hks] at hrowS
      have hp1 : ks.Pairwise (fun x y => leB x y = true) := by rw [hks]; exact leB_sorted ss
      have hperm2 : ks.Perm (strKeys D) := by rw [hks]; exact (List.mergeSort_perm ss _).trans hperm
      clear hks
      have hsl : ss.length ≤ 128 := by
        have h1 := hperm.length_eq
        have h2 := strKeys_len hD.m
        omega
      go_loopw [68, 16] (fun c v16 wr' => ∃ k : Nat, k ≤ ss.length ∧ c = .int .i64 k ∧ wr'.ownsRow w9.heap.size 34 5 v16 k (((ks.take k).map fun q => lookE (joinG co (gR l1) (gR l2)) q).flatMap cellsE) ∧ Below w9.heap.size w9 wr' ∧ (k = 0 → v16 = .slice none 0 0))
        (fun c _ _ => ss.length - (intOf c).toNat)
      case atStart => exact ⟨0, Nat.zero_le _, rfl, World.ownsRow_nil _ _ _ _, Below.refl _ _, fun _ => rfl⟩
      case round =>
        obtain ⟨k, hk, rfl, hout, hnx, hnl2⟩ := hrel
        obtain ⟨q, hq⟩ : ∃ q : List UInt8, k < ss.length → ks[k]? = some q := by
          by_cases h : k < ss.length
          · exact ⟨ks[k], fun _ => List.getElem?_eq_getElem (by omega)⟩
          · exact ⟨[], fun h' => absurd h' h⟩
        have hcell : k < ss.length → ∃ g, ao = some ⟨g, 0, none⟩ ∧ wr.cell? ⟨g, k, none⟩ = some (.string ⟨⟨q⟩⟩) := fun h => by
          obtain ⟨g, rfl⟩ := hao (by omega)
          have h1 := hrowS.cells (g := g) rfl k (encStr q) (by rw [List.getElem?_map, hq h]; rfl)
          rw [addr_add] at h1
          exact ⟨g, rfl, (hnx.cell (World.block_lt_of_cell? _ _ h1)).trans h1⟩
        by_cases hlt : k < ss.length
        · obtain ⟨g, rfl, hc0⟩ := hcell hlt
          have hql : q.length ≤ maxLen := by
            have : q ∈ strKeys D := hperm2.subset (List.mem_of_getElem? (hq hlt))
            exact strKeys_le hown Tryz.underlying9 q this
          obtain ⟨i5, hi5, hy0, hy1, hy2⟩ := info_parts info34
          have hownR := hown9.kept (grown_of hnx) (by simp)
          go_wp2_with (first
            | (at_lookup; refine wpList_look1 rfl _ _ rfl q hownR hD hql rfl rfl ?_)
            | (at_builtin; refine wpList_append_own _ rfl _ _ 22 rfl w9.heap.size 34 i5 (valE zeroE) 5 56 Tryz.underlying22 hi5 hy0 hy1 hy2 rfl (by decide) _ _ _ rfl (hout.alloc _) ⟨wr.heap.size, 0, none⟩ 1 1 (cellsE (lookE (joinG co (gR l1) (gR l2)) q)) rfl rfl (cell_five _ _ _ _ _ _ _) (fun u hu => by simp [cellsE] at hu; rcases hu with rfl | rfl | rfl | rfl | rfl <;> rfl) (by unfold maxLen; omega) (by omega) (by have := hnx.size; simp; omega) (fun v7 w7 hrow7 hgr7 hnil7 => ?_)))
          have hs7 : w9.heap.size ≤ w7.heap.size := by have := hnx.size; have := hgr7.size; simp at this; omega
          have hb7 := (hnx.alloc hnx.size _).grown hgr7 (by have := hnx.size; simp; omega) (fun j hj => (hout.lt j hj).1)
          have ht : ks.take (k + 1) = ks.take k ++ [q] := by
            have h1 := hq hlt
            rw [List.getElem?_eq_getElem (by omega), Option.some.injEq] at h1
            rw [← h1, List.take_append_getElem]
          refine ⟨⟨k + 1, by omega, by go_num, ?_, hb7, fun e => by omega⟩, by simp [intOf]; omega⟩
          rw [ht, List.map_append, List.flatMap_append]
          simpa using hrow7
        · have hkk : k = ss.length := by omega
          subst hkk
          have hks' : ks.take ss.length = ks := by rw [← hkl, List.take_length]
          rw [hks'] at hout
          obtain ⟨hf1, hf2⟩ := strKeys_facts hown
          have hp2 : ks.Nodup := hperm2.nodup_iff.2 hf1
          have hp3 : ∀ q, q ∈ ks ↔ (joinG co (gR l1) (gR l2) q).isSome = true := fun q => by rw [hperm2.mem_iff, hf2, hD.h]
          have hmay := H.may ks hp1 hp2 hp3
          have hout2 : wr.ownsRow w9.heap.size 34 5 u16 (ks.map fun q => lookE (joinG co (gR l1) (gR l2)) q).length ((ks.map fun q => lookE (joinG co (gR l1) (gR l2)) q).flatMap cellsE) := by
            rw [List.length_map, hkl]; exact hout
          have hsl2 := sl_of_owns hout2
          have hrowR := hrow9.kept (grown_of hnx) (apart_none _)
          have hC2 : ∀ q, q ∈ cs ↔ confG co (gR l1) (gR l2) q = true := fun q => by rw [hC.mem, hl0]; simp
          go_wp2_with (first
            | (go_at_call 38; refine (hmay _ _ hsl2).mono ?_; rintro e wm ⟨rfl, hbm⟩)
            | (go_at_call 39; refine (sort_calls (hrowR.kept (grown_of hbm) (apart_none _)) (by omega)).mono ?_; rintro e wz ⟨rfl, hrowZ, hgrZ⟩))
          · go_ret3
            have hbf := below_trans (below_trans hbw9 hnx) hbm
            exact ⟨hbf, ks, hp1, hp2, hp3, .inl ⟨by simpa using (by assumption : (mayE _ != 0) = true), rfl⟩⟩
          · go_ret3
            have hbf := below_trans (below_trans hbw9 hnx) hbm
            have sm := hbm.size
            have sx := hnx.size
            have s9 := hbw9.size
            have sB := hbw.size
            have e0 : mayE (ks.map fun q => lookE (joinG co (gR l1) (gR l2)) q) = 0 := by simpa using (by assumption : (mayE _ != 0) = false)
            have hrl9 : ∀ j, Value.ownBlock u9 = some j → wB.heap.size + 1 ≤ j ∧ j < w9.heap.size := fun j hj => hrow9.lt j hj
            have hoz := ((hout2.kept (grown_of hbm) (apart_none _)).kept hgrZ (by
              cases hv : Value.ownBlock u16 with
              | none => exact .inl rfl
              | some k => exact .inr fun e => by have h1 := (hout2.lt k hv).1; have h2 := (hrl9 k e.symm).2; omega))
            refine ⟨hbf.grown hgrZ hbf.size (fun j hj => by have := (hrl9 j hj).1; omega), ks, hp1, hp2, hp3, .inr ⟨e0, u16, u9, cs.mergeSort (fun x y => decide (x ≤ y)), rfl, ?_, ?_, leB_sorted cs, (List.mergeSort_perm cs _).nodup_iff.2 hC.nd, fun q => by rw [(List.mergeSort_perm cs _).mem_iff, hC2], fun a b ha hb => ?_, fun e => hnl2 (by rw [← hkl, e]; rfl), fun e => hnl (by have := (List.mergeSort_perm cs (fun x y => decide (x ≤ y))).length_eq; rw [e] at this; exact List.eq_nil_of_length_eq_zero this.symm)⟩⟩
            · rw [List.length_map] at hoz
              exact owns_base hoz (by omega)
            · rw [List.length_mergeSort]
              exact owns_base hrowZ (by omega)
            · have h1 := (hout2.lt a ha).1
              have h2 := (hrl9 b hb).2
              omega
    · have a1 : ∀ k, k ≤ wB.heap.size → some k ≠ Value.ownBlock u9 := fun k hk e => by have := hrl2 k e.symm; omega
      have hbw5 := hbw.grown hgr5 hbw.size (fun j hj => by cases hj; omega)
      have s5 := hgr5.size; have sc := hbc.size; have s6 := hgr6.size; have s7 := hgr7.size
      have s0 := hbw5.size
      have b3 : Below w.heap.size w wc := below_trans ((hbw5.alloc hbw5.size _).alloc (by simp; omega) _) hbc
      have s3 := b3.size
      have b4 : Below w.heap.size w w6 := (b3.alloc b3.size _).grown hgr6 (by simp; omega) (fun j hj => by cases hj; omega)
      have s4 := b4.size
      have b5 : Below w.heap.size w w7 := (b4.alloc b4.size _).grown hgr7 (by simp; omega) (fun j hj => by have := hrl2 j hj; omega)
      have hrg7 := ((((((hrg5.alloc _).alloc _).kept (grown_of hbc) (by simp) (by simp)).alloc _).kept hgr6 (by simp; omega) (by simp; omega)).alloc _).kept hgr7 (a1 _ (by omega)) (a1 _ (Nat.le_refl _))
      have hown7 := (hown6.alloc _).kept hgr7 (a1 _ (by omega))
      have hg1 := leftG_left hlx hq
      rw [leftG_strike (some (co e1 e2).1) (by unfold joinG; rw [hg2, hg1])] at hD6
      have hcf : confG co (gR l1) (gR l2) x = true := by unfold confG; rw [hg1, hg2]; assumption
      have hm := hrg7.left_eq
      have hm0 := hrg.left_eq
      refine ⟨⟨strike left x, cnt5, nn + 1, D6, cs ++ [x], hrg7, hown7, by omega, hD6, ?_, by simp; omega, cs_add hC hlx hcf, b5, ?_, fun e => by simp at e⟩, by omega⟩
      · rw [List.map_append, List.length_append]; exact hrow7
      · simp at sc s6 s7; omega
    · have hbw5 := hbw.grown hgr5 hbw.size (fun j hj => by cases hj; omega)
      have s5 := hgr5.size; have sc := hbc.size; have s6 := hgr6.size
      have s0 := hbw5.size
      have b3 : Below w.heap.size w wc := below_trans ((hbw5.alloc hbw5.size _).alloc (by simp; omega) _) hbc
      have s3 := b3.size
      have b4 : Below w.heap.size w w6 := (b3.alloc b3.size _).grown hgr6 (by simp; omega) (fun j hj => by cases hj; omega)
      have s4 := b4.size
      have hrg7 := (((((hrg5.alloc _).alloc _).kept (grown_of hbc) (by simp) (by simp)).alloc _).kept hgr6 (by simp; omega) (by simp; omega))
      have hrow6 := ((((((hrow.kept hgr5 (apart_iter hrl2 (Nat.le_refl _))).alloc _).alloc _).kept (grown_of hbc) (apart_none _)).alloc _).kept hgr6 (apart_iter hrl2 (Nat.le_of_lt l1B)))
      have hg1 := leftG_left hlx hq
      rw [leftG_strike (some (co e1 e2).1) (by unfold joinG; rw [hg2, hg1])] at hD6
      have hcf : confG co (gR l1) (gR l2) x = false := by unfold confG; rw [hg1, hg2]; assumption
      have hm := hrg7.left_eq
      have hm0 := hrg.left_eq
      refine ⟨⟨strike left x, cnt5, nn + 1, D6, cs, hrg7, hown6, by omega, hD6, hrow6, by omega, cs_keep hC hcf, b4, ?_, hnl⟩, by omega⟩
      simp at sc s6; omega
    · have hbw5 := hbw.grown hgr5 hbw.size (fun j hj => by cases hj; omega)
      have s5 := hgr5.size; have s6 := hgr6.size
      have s0 := hbw5.size
      have b4 : Below w.heap.size w w6 := ((hbw5.alloc hbw5.size _).alloc (by simp; omega) _).grown hgr6 (by simp; omega) (fun j hj => by cases hj; omega)
      have s4 := b4.size
      have hrg7 := ((hrg5.alloc _).alloc _).kept hgr6 (by simp; omega) (by simp; omega)
      have hrow6 := ((((hrow.kept hgr5 (apart_iter hrl2 (Nat.le_refl _))).alloc _).alloc _).kept hgr6 (apart_iter hrl2 (Nat.le_of_lt l1B)))
      have hg1 := leftG_left hlx hq
      rw [leftG_strike (some e2) (by unfold joinG; rw [hg2, hg1])] at hD6
      have hcf : confG co (gR l1) (gR l2) x = false := by unfold confG; rw [hg1]
      have hm := hrg7.left_eq
      have hm0 := hrg.left_eq
      go_roundw
      case rel =>
        have R : ∃ (left : Lit → Bool) (cnt nn : Nat) (D : DataW Value) (cs : List (List UInt8)), w6.ranges Tryz.prog 9 RV wA.heap.size wB.heap.size l2.length D2 left cnt ∧ w6.ownsMap Tryz.prog 9 RV w1.heap.size nn D ∧ nn + cnt ≤ 128 ∧ Reads D (leftG co (gR l1) (gR l2) left) ∧
            w6.ownsRow (wB.heap.size + 1) 9 1 u9 cs.length (cs.map encStr) ∧ cs.length + cnt ≤ 64 ∧ CsOk co (gR l1) (gR l2) left cs ∧ Below w.heap.size w w6 ∧ wB.heap.size < w6.heap.size ∧ (cs = [] → u9 = .slice none 0 0) :=
          ⟨strike left x, cnt5, nn + 1, D6, cs, hrg7, hown6, by omega, hD6, hrow6, by omega, cs_keep hC hcf, b4, by simp at s6; omega, hnl⟩
        first
          | exact R
          | ((repeat apply Exists.intro); exact ⟨R, rfl⟩)
      case measure => omega
set_option maxRecDepth 100000 in
theorem merge_err (w : World) (v1 v2 : Value) (l1 l2 : List En) (r1 r2 : Bool) (co : En → En → En × Bool) (mayE : List En → Int) (H : MHyp w v1 v2 l1 l2 r1 r2 co mayE) (hr : ¬ (r1 = true ∧ r2 = true)) :
    Calls Tryz.prog 13 #[v1, v2] w fun e w' => e = .returned (.tuple #[.slice none 0 0, .slice none 0 0, .int .i64 1]) ∧ Below w.heap.size w w' := by
  cases r1 with
  | false =>
    go_enter Tryz.func13, Tryz.ntmps13
    go_wp2_with (first
      | (go_at_call 25; refine (H.right _ false _ (by first | exact .inl ⟨rfl, rfl⟩ | exact .inr ⟨rfl, rfl⟩) (Below.refl _ _)).mono ?_; rintro e w0 ⟨rfl, hb0⟩))
    go_ret3
    exact ⟨rfl, hb0⟩
  | true =>
    cases r2 with
    | true => exact absurd ⟨rfl, rfl⟩ hr
    | false =>
      have m1 : True := trivial
      go_enter Tryz.func13, Tryz.ntmps13
      go_wp2_with (first
        | (go_at_call 25; clear m1; refine (H.right _ true _ (by exact .inl ⟨rfl, rfl⟩) (Below.refl _ _)).mono ?_; rintro e w0 ⟨rfl, hb0⟩)
        | (go_at_call 25; refine (H.right _ false _ (by exact .inr ⟨rfl, rfl⟩) hb0).mono ?_; rintro e w1 ⟨rfl, hb1⟩))
      go_ret3
      exact ⟨rfl, hb1⟩
end Go.Proofs.V.R10
