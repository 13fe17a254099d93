/- Arguments of laws, read, at any seat. -/
import Derived.Test.YtdgihbbekacgcaaGreatDoorK32
import Derived.ChangeArms
import Derived.DataReads
namespace Go.Proofs.W.C
open Go Go.Proofs Go.Proofs.V Go.Proofs.W Go.RowKit
set_option linter.unusedVariables false
set_option linter.unusedSimpArgs false
set_option maxRecDepth 100000
theorem cons_of {α : Type} {l : List α} {n : Nat} (h : l.length = n + 1) : ∃ a l', l = a :: l' ∧ l'.length = n := by
  cases l with
  | nil => cases h
  | cons a l' => exact ⟨a, l', rfl, by simpa using h⟩
theorem nil_of {α : Type} {l : List α} (h : l.length = 0) : l = [] := List.eq_nil_of_length_eq_zero h
theorem addr_none (b off k : Nat) : (⟨b, off, none⟩ : Addr).add k = ⟨b, off + k, none⟩ := by
  unfold Addr.add
  split
  · rename_i h; subst h; rfl
  · rfl
section
variable {H : Type} {enc : TypeId × Value → H} {W : World}
theorem open_sl {P : Program} {α : Type} [Inhabited α] (row : α → List AV) {t e : TypeId} {sz fuel : Nat} {c : Value} {x : DataW H × List MemPlace} (ht : P.underlying t = some (.slice e)) (hc : P.cellsOf e = sz) (hsz : 0 < sz)
    (hel : ∀ (n : Nat) (cs : List Value) (x : DataW H × List MemPlace), DataW.trod enc P W 0 (fun _ => true) true n e cs = some x → ∃ a, row a = cs.map AV.at ∧ ∀ v ∈ cs, Value.one v = true)
    (hspot : ∀ a len cap, c = .slice (some a) len cap → a.spot = none) (h : DataW.trod enc P W 0 (fun _ => true) true fuel t [c] = some x) : ∃ (l : List α) (nl : Bool), l.length ≤ maxLen ∧ (nl = true → l = []) ∧ R1 (cellsOf W) noE (.slice (l.map row) nl .no) c := by
  rcases DataW.trod_slice ht h with ⟨hcs, _⟩ | ⟨a, len, cap, elems, rest, n, _, hcs, _, _, hl, hcm, hlen, hE, _, _⟩
  · simp only [List.cons.injEq, and_true] at hcs
    subst hcs
    exact ⟨[], true, Nat.zero_le _, fun _ => rfl, R1.nil _⟩
  · simp only [List.cons.injEq, and_true] at hcs
    have hsp := hspot a len cap hcs
    subst hcs
    obtain ⟨b, off, spot⟩ := a
    dsimp only at hsp
    subst hsp
    have hp : ∀ i, ∃ p : α × List Value, i < len → (W.cells? 0 ((⟨b, off, none⟩ : Addr).add (i * sz)) sz = some p.2 ∧ row p.1 = p.2.map AV.at ∧ ∀ v ∈ p.2, Value.one v = true) := by
      intro i
      by_cases hi : i < len
      · have h1 := hE i hi
        rw [hc, List.getElem?_eq_getElem (by omega)] at h1
        obtain ⟨cs, h2, h3⟩ := Option.bind_eq_some_iff.1 h1
        obtain ⟨a, ha, hone⟩ := hel _ _ _ h3
        exact ⟨(a, cs), fun _ => ⟨h2, ha, hone⟩⟩
      · exact ⟨(default, []), fun h => absurd h hi⟩
    let f := fun i => Classical.choose (hp i)
    have hf : ∀ i, i < len → (W.cells? 0 ((⟨b, off, none⟩ : Addr).add (i * sz)) sz = some (f i).2 ∧ row (f i).1 = (f i).2.map AV.at ∧ ∀ v ∈ (f i).2, Value.one v = true) := fun i => Classical.choose_spec (hp i)
    refine ⟨(List.range len).map fun i => (f i).1, false, by simp; omega, (fun e => by cases e), ?_⟩
    have hrl : (((List.range len).map fun i => (f i).1).map row).length = len := by simp
    have key := R1.slice (S := cellsOf W) (E := noE) (((List.range len).map fun i => (f i).1).map row) .no b off cap sz (fun i j => ((f i).2[j]?).getD default) (by rw [hrl]; exact hl)
      (by
        intro r hr
        simp only [List.map_map, List.mem_map, List.mem_range, Function.comp] at hr
        obtain ⟨i, hi, rfl⟩ := hr
        obtain ⟨h1, h2, _⟩ := hf i hi
        rw [h2, List.length_map]
        exact (World.cells?_some h1).2.1)
      (fun h => by cases h)
    have hcell : ∀ i j x, cellAt (((List.range len).map fun i => (f i).1).map row) i j = some x → i < len ∧ j < sz ∧ ∃ v, (f i).2[j]? = some v ∧ x = .at v ∧ Value.one v = true := by
      intro i j x hx
      unfold cellAt at hx
      obtain ⟨r, hr, hx⟩ := Option.bind_eq_some_iff.1 hx
      simp only [List.map_map, List.getElem?_map, Option.map_eq_some_iff, Function.comp] at hr
      obtain ⟨i', hi', rfl⟩ := hr
      obtain ⟨hi0, rfl⟩ := List.getElem?_eq_some_iff.1 hi'
      rw [List.getElem_range] at hx
      simp only [List.length_range] at hi0
      obtain ⟨h1, h2, h3⟩ := hf i hi0
      rw [h2, List.getElem?_map, Option.map_eq_some_iff] at hx
      obtain ⟨v, hv, rfl⟩ := hx
      have hjl := (List.getElem?_eq_some_iff.1 hv).1
      rw [(World.cells?_some h1).2.1] at hjl
      exact ⟨hi0, hjl, v, hv, rfl, h3 v (List.mem_of_getElem? hv)⟩
    have key2 := key
      (by
        intro i j x hx
        obtain ⟨_, _, v, _, rfl, hone⟩ := hcell i j x hx
        cases v <;> simp_all [AV.plain, Value.one])
      (by
        intro i j x hx
        obtain ⟨hi, hj, v, hv, rfl, _⟩ := hcell i j x hx
        have h1 := (World.cells?_some (hf i hi).1).2.2 j hj
        rw [addr_none, addr_none, Nat.add_assoc] at h1
        simp only [cellsOf, h1, hv, Option.getD_some])
      (by
        intro i j x hx
        obtain ⟨hi, hj, v, hv, rfl, _⟩ := hcell i j x hx
        rw [hv]
        exact .at v)
    rw [hrl] at key2
    exact key2
variable {P : Program}
abbrev Rd (P : Program) (enc : TypeId × Value → H) (W : World) (n : Nat) (t : TypeId) (cs : List Value) (x : DataW H × List MemPlace) : Prop := DataW.trod enc P W 0 (fun _ => true) true n t cs = some x
theorem elI (h3 : P.underlying 3 = some (.int .i64)) {n : Nat} {cs : List Value} {x : DataW H × List MemPlace} (h : Rd P enc W n 3 cs x) : ∃ a : Int, cs = [.int .i64 a] := by
  obtain ⟨a, rfl, _⟩ := DataW.trod_int h3 h
  exact ⟨a, rfl⟩
theorem elS (h9 : P.underlying 9 = some .string) {n : Nat} {cs : List Value} {x : DataW H × List MemPlace} (h : Rd P enc W n 9 cs x) : ∃ s : List UInt8, cs = [.string ⟨⟨s⟩⟩] := by
  obtain ⟨s, rfl, _⟩ := DataW.trod_string h9 h
  exact ⟨s.data.toList, rfl⟩
theorem elB (h4 : P.underlying 4 = some .bool) {n : Nat} {cs : List Value} {x : DataW H × List MemPlace} (h : Rd P enc W n 4 cs x) : ∃ b : Bool, cs = [.bool b] := by
  obtain ⟨b, rfl, _⟩ := DataW.trod_bool h4 h
  exact ⟨b, rfl⟩
/-- A struct's fields. -/
theorem elF {t : TypeId} {fs : Array Field} (ht : P.underlying t = some (.struct fs)) {n : Nat} {cs : List Value} {x : DataW H × List MemPlace} (h : Rd P enc W n t cs x) :
    cs.length = P.cellsOf t ∧ ∀ (i : Nat) (f : Field), fs[i]? = some f → ∃ m y, Rd P enc W m f.type ((cs.drop f.offset).take (P.cellsOf f.type)) y := by
  obtain ⟨xs, m, _, _, hl, hx, hf⟩ := DataW.trod_struct ht h
  refine ⟨hl, fun i f hi => ?_⟩
  have h1 := hf i f hi
  have h2 : i < fs.size := (Array.getElem?_eq_some_iff.1 hi).1
  rw [List.getElem?_eq_getElem (by omega)] at h1
  exact ⟨m, _, h1⟩
theorem fld {fs : Array Field} {cs : List Value} (hf : ∀ (i : Nat) (f : Field), fs[i]? = some f → ∃ m y, Rd P enc W m f.type ((cs.drop f.offset).take (P.cellsOf f.type)) y) (i : Nat) {f : Field} {t : TypeId} {k o : Nat} {cs' : List Value} (hi : fs[i]? = some f) (ht : f.type = t) (ho : f.offset = o) (hk : P.cellsOf t = k) (hc : (cs.drop o).take k = cs') : ∃ m y, Rd P enc W m t cs' y := by
  subst ht; subst ho; subst hk; subst hc
  exact hf i f hi
/-- A slice's pointer leads to a place, not into a value. -/
theorem spot_of {base : Nat} {t e : TypeId} (ht : P.underlying t = some (.slice e)) {c : Value} (h : Cell.okWide P W .any base t c) : ∀ a len cap, c = .slice (some a) len cap → a.spot = none := by
  rintro a len cap rfl
  unfold Cell.okWide at h
  rw [ht] at h
  simp only [Cell.ok, ht] at h
  exact h.2.2.2.1
end
end Go.Proofs.W.C
