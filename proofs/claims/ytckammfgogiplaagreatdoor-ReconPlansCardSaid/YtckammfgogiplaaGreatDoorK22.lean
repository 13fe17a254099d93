/- recon.known: the map of an archive's entries. -/
import Derived.Test.YtckammfgogiplaaGreatDoorProg
import Derived.Maps.Own
import Derived.Maps.RangeWalk
import Derived.Sort.KeysCollected
import Derived.WalkKit
import Derived.KernelRfl
namespace Go.Proofs.V.R10
open Go Go.Proofs Go.RowKit Go.Maps
set_option linter.unusedVariables false
set_option linter.unusedSimpArgs false
abbrev En := List UInt8 × (Bool × (List UInt8 × (Int × Int)))
/-- A value, as it is. -/
def RV (v : Value) : Option (DataW Value × List MemPlace) := some (.held v, [])
theorem law9 : Keyed Tryz.prog 9 := string_keyed Tryz.underlying9
def valE (e : En) : Value := .agg #[.string ⟨⟨e.1⟩⟩, .bool e.2.1, .string ⟨⟨e.2.2.1⟩⟩, .int .i64 e.2.2.2.1, .int .i64 e.2.2.2.2]
/-- A map that reads as a function. -/
structure Reads (D : DataW Value) (g : List UInt8 → Option En) : Prop where
  m : IsMap D
  h : ∀ q, has D (.string q) = (g q).isSome
  v : ∀ q e, g q = some e → ∀ z, D.atKey (.string q) z = .held (valE e)
theorem key_lit (q : List UInt8) : WideAt.IsKeyLit (.string q) := trivial
theorem reads_nil : Reads (.map []) (fun _ => none) := ⟨⟨_, rfl⟩, fun q => rfl, fun q e h => by cases h⟩
theorem isMap_put {D : DataW Value} (h : IsMap D) (k : Lit) (d : DataW Value) : IsMap (D.put k d) := by
  obtain ⟨es, rfl⟩ := h
  exact ⟨_, rfl⟩
theorem Reads.put {D : DataW Value} {g : List UInt8 → Option En} (h : Reads D g) (q : List UInt8) (e : En) : Reads (D.put (.string q) (.held (valE e))) (fun q' => if q' = q then some e else g q') := by
  refine ⟨isMap_put h.m _ _, fun q' => ?_, fun q' e' he z => ?_⟩
  · by_cases hq : q' = q
    · subst hq
      rw [has_put_same h.m (key_lit _), if_pos rfl]; rfl
    · rw [has_put_other (fun e => hq (by cases e; rfl)), h.h, if_neg hq]
  · by_cases hq : q' = q
    · subst hq
      rw [if_pos rfl] at he
      cases he
      exact atKey_put_same h.m (key_lit _) _ _
    · rw [if_neg hq] at he
      rw [atKey_put_other (fun e => hq (by cases e; rfl))]
      exact h.v q' e' he z
def gR (l : List En) (q : List UInt8) : Option En := l.reverse.find? fun e => decide (e.1 = q)
theorem gR_append (l : List En) (e : En) : gR (l ++ [e]) = fun q' => if q' = e.1 then some e else gR l q' := by
  funext q'
  unfold gR
  rw [List.reverse_append, List.reverse_singleton, List.singleton_append, List.find?_cons]
  by_cases h : e.1 = q'
  · simp [h]
  · have h' : ¬ q' = e.1 := fun e' => h e'.symm
    simp [h, h']
/-- An archive's rows in memory. -/
structure Rows5 (w : World) (b off : Nat) (l : List En) : Prop where
  c0 : ∀ (i : Nat) (e : En), l[i]? = some e → w.cell? ⟨b, off + i * 5, none⟩ = some (.string ⟨⟨e.1⟩⟩)
  c1 : ∀ (i : Nat) (e : En), l[i]? = some e → w.cell? ⟨b, off + i * 5 + 1, none⟩ = some (.bool e.2.1)
  c2 : ∀ (i : Nat) (e : En), l[i]? = some e → w.cell? ⟨b, off + i * 5 + 2, none⟩ = some (.string ⟨⟨e.2.2.1⟩⟩)
  c3 : ∀ (i : Nat) (e : En), l[i]? = some e → w.cell? ⟨b, off + i * 5 + 3, none⟩ = some (.int .i64 e.2.2.2.1)
  c4 : ∀ (i : Nat) (e : En), l[i]? = some e → w.cell? ⟨b, off + i * 5 + 4, none⟩ = some (.int .i64 e.2.2.2.2)
/-- An archive as a value. -/
def Sl (w : World) (v : Value) (l : List En) : Prop := (v = .slice none 0 0 ∧ l = []) ∨ ∃ b off cap, v = .slice (some ⟨b, off, none⟩) l.length cap ∧ l.length ≤ cap ∧ Rows5 w b off l
theorem Sl.below {w w' : World} {v : Value} {l : List En} (h : Sl w v l) (hb : Below w.heap.size w w') : Sl w' v l := by
  rcases h with h | ⟨b, off, cap, hv, hc, h⟩
  · exact .inl h
  · have key : ∀ {a : Addr} {u : Value}, w.cell? a = some u → w'.cell? a = some u := fun {a u} hu => (hb.cell (World.block_lt_of_cell? w a hu)).trans hu
    exact .inr ⟨b, off, cap, hv, hc, fun i e he => key (h.c0 i e he), fun i e he => key (h.c1 i e he), fun i e he => key (h.c2 i e he), fun i e he => key (h.c3 i e he), fun i e he => key (h.c4 i e he)⟩
set_option maxRecDepth 100000 in
theorem known_any (b off cap : Nat) (l : List En) (w : World) (hn : l.length ≤ 64) (hs0 : ∀ e ∈ l, e.1.length ≤ maxLen) (hcap : l.length ≤ cap) (hc : Rows5 w b off l) :
    Calls Tryz.prog 34 #[.slice (some ⟨b, off, none⟩) l.length cap] w fun e w' => e = .returned (.map (some w.heap.size)) ∧ (∃ D, Reads D (gR l) ∧ w'.ownsMap Tryz.prog 9 RV w.heap.size l.length D) ∧ Below w.heap.size w w' := by
  have hmm := @run_makeMap Tryz.prog
  go_enter Tryz.func34, Tryz.ntmps34
  go_wp2
  have hg0 : gR (l.take 0) = fun _ => none := rfl
  go_loopw [9] (fun i wr => ∃ k : Nat, k ≤ l.length ∧ i = .int .i64 k ∧ (∃ D, Reads D (gR (l.take k)) ∧ wr.ownsMap Tryz.prog 9 RV w.heap.size k D) ∧ Below w.heap.size w wr)
    (fun i _ => l.length - (intOf i).toNat)
  case atStart => exact ⟨0, Nat.zero_le _, rfl, ⟨.map [], reads_nil, World.ownsMap_made _ _ _ _⟩, (Below.refl _ _).alloc (Nat.le_refl _) _⟩
  case round =>
    obtain ⟨k, hk, rfl, ⟨D, hD, hown⟩, hnx⟩ := hrel
    obtain ⟨e, he⟩ : ∃ e : En, k < l.length → l[k]? = some e := by
      by_cases h : k < l.length
      · exact ⟨l[k], fun _ => List.getElem?_eq_getElem h⟩
      · exact ⟨default, fun h' => absurd h' h⟩
    have hb : k < l.length → b < w.heap.size := fun h => World.block_lt_of_cell? w _ (hc.c0 k e (he h))
    have d0 : k < l.length → wr.cell? ⟨b, off + k * 5, none⟩ = some (.string ⟨⟨e.1⟩⟩) := fun h => (hnx.cell (hb h)).trans (hc.c0 k e (he h))
    have d1 : k < l.length → wr.cell? ⟨b, off + k * 5 + 1, none⟩ = some (.bool e.2.1) := fun h => (hnx.cell (hb h)).trans (hc.c1 k e (he h))
    have d2 : k < l.length → wr.cell? ⟨b, off + k * 5 + 2, none⟩ = some (.string ⟨⟨e.2.2.1⟩⟩) := fun h => (hnx.cell (hb h)).trans (hc.c2 k e (he h))
    have d3 : k < l.length → wr.cell? ⟨b, off + k * 5 + 3, none⟩ = some (.int .i64 e.2.2.2.1) := fun h => (hnx.cell (hb h)).trans (hc.c3 k e (he h))
    have d4 : k < l.length → wr.cell? ⟨b, off + k * 5 + 4, none⟩ = some (.int .i64 e.2.2.2.2) := fun h => (hnx.cell (hb h)).trans (hc.c4 k e (he h))
    have hkey : k < l.length → keyOf Tryz.prog 9 (.string ⟨⟨e.1⟩⟩) = some (.string e.1) := fun h => Go.WideMaps.keyOf_string_mk Tryz.underlying9 (hs0 e (List.mem_of_getElem? (he h)))
    go_wp2_with (first
      | (at_mapUpdate; refine wpList_mapUpdate_own _ rfl _ _ _ 61 rfl 9 34 law9 Tryz.underlying61 RV w.heap.size k D rfl (hown.alloc _) (by unfold maxLen; omega) _ _ _ rfl rfl (hkey (by assumption)) _ [] rfl ?_)
      | go_in)
    · intro w1 hown1 hgrow1
      have hlt : k < l.length := by assumption
      have R2 := (hnx.alloc hnx.size _).grown hgrow1 (by have := hnx.size; simp; omega) (fun j hj => by cases hj; exact Nat.le_refl _)
      have R3 := hD.put e.1 e
      rw [← gR_append] at R3
      have R4 : l.take k ++ [e] = l.take (k + 1) := by
        have := he hlt
        rw [List.getElem?_eq_getElem hlt, Option.some.injEq] at this
        rw [← this, List.take_append_getElem hlt]
      rw [R4] at R3
      clear hown d0 d1 d2 d3 d4
      go_wp2
      go_roundw
      case rel => exact ⟨k + 1, by omega, by go_num, ⟨_, R3, hown1⟩, R2⟩
      case measure => simp [intOf]; omega
    · have : k = l.length := by omega
      subst this
      rw [List.take_length] at hD
      go_ret
      exact ⟨rfl, ⟨D, hD, hown⟩, hnx⟩
set_option maxRecDepth 100000 in
theorem known_none (w : World) :
    Calls Tryz.prog 34 #[.slice none 0 0] w fun e w' => e = .returned (.map (some w.heap.size)) ∧ (∃ D, Reads D (gR []) ∧ w'.ownsMap Tryz.prog 9 RV w.heap.size 0 D) ∧ Below w.heap.size w w' := by
  have hmm := @run_makeMap Tryz.prog
  go_enter Tryz.func34, Tryz.ntmps34
  go_wp2
  refine wp_loop_rounds 1 ?_
  rw [rounds_succ]
  go_wp2
  go_ret
  exact ⟨rfl, ⟨.map [], reads_nil, World.ownsMap_made _ _ _ _⟩, (Below.refl _ _).alloc (Nat.le_refl _) _⟩
theorem known_calls {v : Value} {l : List En} {w : World} (hs : Sl w v l) (hn : l.length ≤ 64) (hs0 : ∀ e ∈ l, e.1.length ≤ maxLen) :
    Calls Tryz.prog 34 #[v] w fun e w' => e = .returned (.map (some w.heap.size)) ∧ (∃ D, Reads D (gR l) ∧ w'.ownsMap Tryz.prog 9 RV w.heap.size l.length D) ∧ Below w.heap.size w w' := by
  rcases hs with ⟨rfl, rfl⟩ | ⟨b, off, cap, rfl, hc, h⟩
  · exact known_none w
  · exact known_any b off cap l w hn hs0 hc h
end Go.Proofs.V.R10
