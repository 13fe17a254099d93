/- act.last: the map of actions by their paths, walked. -/
import Derived.Test.YtboeaelijjamoaaGreatDoorK38
import Derived.Test.YtboeaelijjamoaaGreatDoorK39
import Derived.Maps.Own
import Derived.Maps.OwnSet
import Derived.Maps.OwnOps
import Derived.Maps.RangeWalk
import Derived.Sort.KeysCollected
import Derived.Sort.OwnSorted
namespace Go.Proofs.V.R11
open Go Go.Proofs Go.RowKit Go.Maps Go.Proofs.V Go.Proofs.W Go.Proofs.W.C Go.Proofs.V.U11
set_option linter.unusedVariables false
set_option linter.unusedSimpArgs false
set_option maxRecDepth 100000
def RV (v : Value) : Option (DataW Value × List MemPlace) := some (.held v, [])
theorem law9 : Keyed Tryz.prog 9 := string_keyed Tryz.underlying9
def valA (e : Ac) : Value := .agg #[.string ⟨⟨e.1⟩⟩, .bool e.2.1, .string ⟨⟨e.2.2⟩⟩]
/-- A map that reads as a function. -/
structure Reads (D : DataW Value) (g : List UInt8 → Option Ac) : Prop where
  m : IsMap D
  h : ∀ q, has D (.string q) = (g q).isSome
  v : ∀ q e, g q = some e → ∀ z, D.atKey (.string q) z = .held (valA e)
theorem key_lit (q : List UInt8) : WideAt.IsKeyLit (.string q) := trivial
theorem reads_nil : Reads (.map []) (fun _ => none) := ⟨⟨_, rfl⟩, fun q => rfl, fun q e h => by cases h⟩
theorem isMap_put {D : DataW Value} (h : IsMap D) (k : Lit) (d : DataW Value) : IsMap (D.put k d) := by
  obtain ⟨es, rfl⟩ := h
  exact ⟨_, rfl⟩
theorem Reads.put {D : DataW Value} {g : List UInt8 → Option Ac} (h : Reads D g) (q : List UInt8) (e : Ac) : Reads (D.put (.string q) (.held (valA e))) (fun q' => if q' = q then some e else g q') := by
  refine ⟨isMap_put h.m _ _, fun q' => ?_, fun q' e' he z => ?_⟩
  · by_cases hq : q' = q
    · subst hq
      rw [has_put_same h.m (key_lit _), if_pos rfl]; rfl
    · rw [has_put_other (fun e => hq (by cases e; rfl)), h.h, if_neg hq]
  · by_cases hq : q' = q
    · subst hq
      rw [if_pos rfl] at he
      cases he
      exact atKey_put_same h.m (key_lit _) _ _
    · rw [if_neg hq] at he
      rw [atKey_put_other (fun e => hq (by cases e; rfl))]
      exact h.v q' e' he z
def gR (l : List Ac) (q : List UInt8) : Option Ac := l.reverse.find? fun e => decide (e.1 = q)
theorem gR_append (l : List Ac) (e : Ac) : gR (l ++ [e]) = fun q' => if q' = e.1 then some e else gR l q' := by
  funext q'
  unfold gR
  rw [List.reverse_append, List.reverse_singleton, List.singleton_append, List.find?_cons]
  by_cases h : e.1 = q'
  · simp [h]
  · have h' : ¬ q' = e.1 := fun e' => h e'.symm
    simp [h, h']
set_option maxRecDepth 100000 in
theorem last_any (b off cap : Nat) (l : List Ac) (w : World) (hn : l.length ≤ 1000) (hs0 : ∀ e ∈ l, e.1.length ≤ maxLen) (hcap : l.length ≤ cap) (hc : ∀ j u, (l.flatMap cellsA)[j]? = some u → w.cell? ⟨b, off + j, none⟩ = some u) :
    Calls Tryz.prog 29 #[.slice (some ⟨b, off, none⟩) l.length cap] w fun e w' => e = .returned (.map (some w.heap.size)) ∧ (∃ D, Reads D (gR l) ∧ w'.ownsMap Tryz.prog 9 RV w.heap.size l.length D) ∧ Below w.heap.size w w' := by
  have hmm := @run_makeMap Tryz.prog
  go_enter Tryz.func29, Tryz.ntmps29
  go_wp2
  have hg0 : gR (l.take 0) = fun _ => none := rfl
  go_loopw [9] (fun i wr => ∃ k : Nat, k ≤ l.length ∧ i = .int .i64 k ∧ (∃ D, Reads D (gR (l.take k)) ∧ wr.ownsMap Tryz.prog 9 RV w.heap.size k D) ∧ Below w.heap.size w wr)
    (fun i _ => l.length - (RowKit.intOf i).toNat)
  case atStart => exact ⟨0, Nat.zero_le _, rfl, ⟨.map [], reads_nil, World.ownsMap_made _ _ _ _⟩, (Below.refl _ _).alloc (Nat.le_refl _) _⟩
  case round =>
    obtain ⟨k, hk, rfl, ⟨D, hD, hown⟩, hnx⟩ := hrel
    obtain ⟨e, he⟩ : ∃ e : Ac, k < l.length → l[k]? = some e := by
      by_cases h : k < l.length
      · exact ⟨l[k], fun _ => List.getElem?_eq_getElem h⟩
      · exact ⟨default, fun h' => absurd h' h⟩
    have hd : k < l.length → wr.cell? ⟨b, off + k * 3, none⟩ = some (.string ⟨⟨e.1⟩⟩) ∧ wr.cell? ⟨b, off + k * 3 + 1, none⟩ = some (.bool e.2.1) ∧ wr.cell? ⟨b, off + k * 3 + 2, none⟩ = some (.string ⟨⟨e.2.2⟩⟩) := fun h => by
      obtain ⟨r0, r1, r2⟩ := rowA hc (he h)
      exact ⟨(hnx.cell (World.block_lt_of_cell? w _ r0)).trans r0, (hnx.cell (World.block_lt_of_cell? w _ r1)).trans r1, (hnx.cell (World.block_lt_of_cell? w _ r2)).trans r2⟩
    have d0 : k < l.length → wr.cell? ⟨b, off + k * 3, none⟩ = some (.string ⟨⟨e.1⟩⟩) := fun h => (hd h).1
    have d1 : k < l.length → wr.cell? ⟨b, off + k * 3 + 1, none⟩ = some (.bool e.2.1) := fun h => (hd h).2.1
    have d2 : k < l.length → wr.cell? ⟨b, off + k * 3 + 2, none⟩ = some (.string ⟨⟨e.2.2⟩⟩) := fun h => (hd h).2.2
    have hkey : k < l.length → keyOf Tryz.prog 9 (.string ⟨⟨e.1⟩⟩) = some (.string e.1) := fun h => Go.WideMaps.keyOf_string_mk Tryz.underlying9 (hs0 e (List.mem_of_getElem? (he h)))
    go_wp2_with (first
      | (at_mapUpdate; refine wpList_mapUpdate_own _ rfl _ _ _ 52 rfl 9 41 law9 Tryz.underlying52 RV w.heap.size k D rfl (hown.alloc _) (by unfold maxLen; omega) _ _ _ rfl rfl (hkey (by assumption)) _ [] rfl ?_)
      | go_in)
    · intro w1 hown1 hgrow1
      have hlt : k < l.length := by assumption
      have R2 := (hnx.alloc hnx.size _).grown hgrow1 (by have := hnx.size; simp; omega) (fun j hj => by cases hj; exact Nat.le_refl _)
      have R3 := hD.put e.1 e
      rw [← gR_append] at R3
      have R4 : l.take k ++ [e] = l.take (k + 1) := by
        have := he hlt
        rw [List.getElem?_eq_getElem hlt, Option.some.injEq] at this
        rw [← this, List.take_append_getElem hlt]
      rw [R4] at R3
      clear hown d0 d1 d2 hd
      go_wp2
      go_roundw
      case rel => exact ⟨k + 1, by omega, by go_num, ⟨_, R3, hown1⟩, R2⟩
      case measure => simp [RowKit.intOf]; omega
    · have : k = l.length := by omega
      subst this
      rw [List.take_length] at hD
      go_ret
      exact ⟨rfl, ⟨D, hD, hown⟩, hnx⟩
set_option maxRecDepth 100000 in
theorem last_none (w : World) :
    Calls Tryz.prog 29 #[.slice none 0 0] w fun e w' => e = .returned (.map (some w.heap.size)) ∧ (∃ D, Reads D (gR []) ∧ w'.ownsMap Tryz.prog 9 RV w.heap.size 0 D) ∧ Below w.heap.size w w' := by
  have hmm := @run_makeMap Tryz.prog
  go_enter Tryz.func29, Tryz.ntmps29
  go_wp2
  refine wp_loop_rounds 1 ?_
  rw [rounds_succ]
  go_wp2
  go_ret
  exact ⟨rfl, ⟨.map [], reads_nil, World.ownsMap_made _ _ _ _⟩, (Below.refl _ _).alloc (Nat.le_refl _) _⟩
theorem last_calls {v : Value} {l : List Ac} {w : World} (hs : SlR reA w v l) (hn : l.length ≤ 1000) (hs0 : ∀ e ∈ l, e.1.length ≤ maxLen) :
    Calls Tryz.prog 29 #[v] w fun e w' => e = .returned (.map (some w.heap.size)) ∧ (∃ D, Reads D (gR l) ∧ w'.ownsMap Tryz.prog 9 RV w.heap.size l.length D) ∧ Below w.heap.size w w' := by
  rcases slR_form kA hs with ⟨rfl, rfl⟩ | ⟨b, off, cap, rfl, hc, h⟩
  · exact last_none w
  · exact last_any b off cap l w hn hs0 hc h
theorem strKeys_facts {w : World} {b n : Nat} {D : DataW Value} (hown : w.ownsMap Tryz.prog 9 RV b n D) : (strKeys D).Nodup ∧ ∀ x, x ∈ strKeys D ↔ has D (.string x) = true := by
  obtain ⟨es, hD, hp, _⟩ := hown.entries law9
  obtain ⟨es', hD', hko⟩ := hown.keysOf
  obtain rfl : es = es' := by rw [hD] at hD'; simpa using hD'
  subst hD
  have hk : ∀ p ∈ es, ∃ x, p.1 = .string x := fun p hp => by obtain ⟨v, hv⟩ := hko p hp; obtain ⟨x, _, hx, _⟩ := Maps.keyOf_str Tryz.underlying9 hv; exact ⟨x, hx⟩
  refine ⟨?_, fun x => ?_⟩
  · show (es.map fun p => strOf p.1).Nodup
    refine List.pairwise_map.2 (hp.imp_of_mem fun {p q} hp' hq' hne e => hne ?_)
    obtain ⟨a, ha⟩ := hk p hp'
    obtain ⟨b, hb⟩ := hk q hq'
    rw [ha, hb] at e ⊢
    exact congrArg _ e
  · rw [has_eq, List.any_eq_true]
    show x ∈ es.map (fun p => strOf p.1) ↔ _
    rw [List.mem_map]
    constructor
    · rintro ⟨p, hp', rfl⟩
      obtain ⟨a, ha⟩ := hk p hp'
      exact ⟨p, hp', by rw [ha]; simp [Lit.sameKey, strOf]⟩
    · rintro ⟨p, hp', hs⟩
      obtain ⟨a, ha⟩ := hk p hp'
      rw [ha] at hs
      exact ⟨p, hp', by rw [ha]; simpa [Lit.sameKey, strOf] using hs⟩
theorem leB_sorted (l : List (List UInt8)) : (l.mergeSort leB).Pairwise (fun x y => leB x y = true) := by
  have tr : ∀ a b c : List UInt8, leB a b = true → leB b c = true → leB a c = true := fun a b c h1 h2 => by simp only [leB, decide_eq_true_eq] at *; exact List.le_trans h1 h2
  have to : ∀ a b : List UInt8, (leB a b || leB b a) = true := fun a b => by simp only [leB, Bool.or_eq_true, decide_eq_true_eq]; exact List.le_total a b
  exact List.pairwise_mergeSort tr to l
theorem size_le {w : World} {b n : Nat} {D : DataW Value} (h : w.ownsMap Tryz.prog 9 RV b n D) : Maps.size D ≤ n := by
  obtain ⟨es, clock, hb, F, hs, rfl⟩ := h
  show ((es.toList.map _).foldr DataW.insert []).length ≤ n
  rw [length_sorted]
  simpa using hs
end Go.Proofs.V.R11
