/- Rows in memory: as one's own, and as values. -/
import Derived.Test.YtnjfjjmlonalhaaDoorK23
import Derived.Laws.AppendOwn
import Derived.Laws.OwnMore
namespace Go.Proofs.W.C
open Go Go.Proofs Go.Proofs.V Go.Proofs.W Go.RowKit
set_option linter.unusedVariables false
set_option linter.unusedSimpArgs false
set_option maxRecDepth 100000
/-- A row's cells: how an element lies in memory. -/
structure Cells (r : RT) (sz : Nat) (cells : Tr r → List Value) : Prop where
  flat : flatRT r = true
  enc : ∀ x, encR r x = (cells x).map AV.at
  len : ∀ x, (cells x).length = sz
  plain : ∀ x, ∀ u ∈ cells x, AV.plain (.at u) = true
section
variable {r : RT} {sz : Nat} {cells : Tr r → List Value} (K : Cells r sz cells)
include K
theorem Cells.flen (l : List (Tr r)) : (l.flatMap cells).length = l.length * sz := by
  induction l with
  | nil => simp
  | cons x l ih => rw [List.flatMap_cons, List.length_append, ih, K.len, List.length_cons, Nat.add_mul]; omega
theorem Cells.at : ∀ (l : List (Tr r)) (i j : Nat) (x : Tr r) (u : Value), l[i]? = some x → (cells x)[j]? = some u → (l.flatMap cells)[i * sz + j]? = some u
  | [], i, j, x, u, h, _ => by simp at h
  | y :: l, 0, j, x, u, h, k => by
    simp at h
    subst h
    rw [List.flatMap_cons, Nat.zero_mul, Nat.zero_add, List.getElem?_append_left (List.getElem?_eq_some_iff.1 k).1]
    exact k
  | y :: l, i + 1, j, x, u, h, k => by
    rw [List.flatMap_cons, Nat.add_mul, List.getElem?_append_right (by rw [K.len]; omega), K.len, ← Cells.at l i j x u (by simpa using h) k]
    congr 1
    omega
theorem Cells.cellAt {l : List (Tr r)} {i j : Nat} {x : AV} (h : cellAt (l.map (encR r)) i j = some x) : ∃ y u, l[i]? = some y ∧ (cells y)[j]? = some u ∧ x = .at u := by
  unfold V.cellAt at h
  rw [List.getElem?_map] at h
  cases hy : l[i]? with
  | none => rw [hy] at h; cases h
  | some y =>
    rw [hy] at h
    have h : (encR r y)[j]? = some x := h
    rw [K.enc, List.getElem?_map] at h
    cases hu : (cells y)[j]? with
    | none => rw [hu] at h; cases h
    | some u => rw [hu] at h; cases h; exact ⟨y, u, rfl, hu, rfl⟩
theorem slR_cells {w : World} {g off cap : Nat} {l : List (Tr r)} (hc : l.length ≤ cap) (h : ∀ j u, (l.flatMap cells)[j]? = some u → w.cell? ⟨g, off + j, none⟩ = some u) : SlR r w (.slice (some ⟨g, off, none⟩) l.length cap) l := by
  refine ⟨false, fun e => (by cases e), ?_⟩
  have cell : ∀ i j x, cellAt (l.map (encR r)) i j = some x → ∃ u, x = .at u ∧ AV.plain x = true ∧ w.cell? ⟨g, off + (i * sz + j), none⟩ = some u := by
    intro i j x hx
    obtain ⟨y, u, hy, hu, rfl⟩ := K.cellAt hx
    exact ⟨u, rfl, K.plain y u (List.mem_of_getElem? hu), h _ _ (K.at l i j y u hy hu)⟩
  have := R1.slice (S := cellsOf w) (E := noE) (l.map (encR r)) .no g off cap sz (fun i j => ((w.cell? ⟨g, off + (i * sz + j), none⟩).getD default)) (by rw [List.length_map]; exact hc)
    (fun row hr => by obtain ⟨q, hq, rfl⟩ := List.mem_map.1 hr; rw [K.enc, List.length_map]; exact K.len q) (fun e => by cases e) (fun i j x hx => by obtain ⟨u, _, h, _⟩ := cell i j x hx; exact h)
    (fun i j x hx => by obtain ⟨u, _, _, hu⟩ := cell i j x hx; show w.cell? _ = _; rw [hu]; rfl)
    (fun i j x hx => by obtain ⟨u, rfl, _, hu⟩ := cell i j x hx; rw [hu]; exact .at _)
  rwa [List.length_map] at this
theorem slR_own {w : World} {base : Nat} {e : TypeId} {v : Value} {l : List (Tr r)} (h : w.ownsRow base e sz v l.length (l.flatMap cells)) : SlR r w v l := by
  rcases h.2 with ⟨rfl, h0⟩ | ⟨g, cap, cur, rfl, hbase, hg, hn, _⟩
  · have : l = [] := List.length_eq_zero_iff.1 h0
    subst this
    exact ⟨true, fun _ => rfl, .nil _⟩
  · refine slR_cells K hn fun j u hj => ?_
    have h1 := h.cells (g := g) rfl j u hj
    have : (⟨g, 0, none⟩ : Addr).add j = ⟨g, 0 + j, none⟩ := by unfold Addr.add; split <;> simp_all
    rw [this] at h1
    exact h1
theorem slR_form {w : World} {v : Value} {l : List (Tr r)} (h : SlR r w v l) : (v = .slice none 0 0 ∧ l = []) ∨ ∃ b off cap, v = .slice (some ⟨b, off, none⟩) l.length cap ∧ l.length ≤ cap ∧ ∀ j u, (l.flatMap cells)[j]? = some u → w.cell? ⟨b, off + j, none⟩ = some u := by
  obtain ⟨nl, h1, h2⟩ := h
  generalize hg : l.map (encR r) = rows at h2
  cases h2 with
  | nil =>
    have : l = [] := List.map_eq_nil_iff.1 hg
    exact .inl ⟨rfl, this⟩
  | slice rows own b off cap sz' val hlen hsz hfull hpl hS hR =>
    have hl : l.length = rows.length := by rw [← hg, List.length_map]
    refine .inr ⟨b, off, cap, by rw [hl], by rw [hl]; exact hlen, fun j u hj => ?_⟩
    have hjl : j < l.length * sz := by rw [← Cells.flen K]; exact (List.getElem?_eq_some_iff.1 hj).1
    have hsz0 : 0 < sz := by
      rcases Nat.eq_zero_or_pos sz with h | h
      · rw [h] at hjl; omega
      · exact h
    have hi : j / sz < l.length := Nat.div_lt_of_lt_mul (by rw [Nat.mul_comm]; exact hjl)
    have hm : j % sz < sz := Nat.mod_lt _ hsz0
    have hjs : j / sz * sz + j % sz = j := by rw [Nat.mul_comm]; exact Nat.div_add_mod j sz
    have hlu := List.getElem?_eq_getElem hi
    have hcu : (cells l[j / sz])[j % sz]? = some ((cells l[j / sz])[j % sz]'(by rw [K.len]; exact hm)) := List.getElem?_eq_getElem _
    have h3 := K.at l (j / sz) (j % sz) _ _ hlu hcu
    rw [hjs, hj] at h3
    have hca : cellAt rows (j / sz) (j % sz) = some (.at u) := by
      unfold V.cellAt
      rw [← hg, List.getElem?_map, hlu]
      show (encR r _)[j % sz]? = _
      rw [K.enc, List.getElem?_map, hcu, ← h3]
      rfl
    have hss : sz' = sz := by
      rw [← hsz (encR r l[j / sz]) (by rw [← hg]; exact List.mem_map.2 ⟨_, List.getElem_mem hi, rfl⟩), K.enc, List.length_map, K.len]
    have h4 := hS _ _ _ hca
    have h5 := hR _ _ _ hca
    rw [hss, hjs] at h4
    generalize val (j / sz) (j % sz) = q at h4 h5
    cases h5
    exact h4
theorem SlR.len {w : World} {v : Value} {l : List (Tr r)} (h : SlR r w v l) : ∃ ao cap, v = .slice ao l.length cap := by
  rcases slR_form K h with ⟨rfl, rfl⟩ | ⟨b, off, cap, rfl, _⟩
  · exact ⟨none, 0, rfl⟩
  · exact ⟨_, cap, rfl⟩
end
end Go.Proofs.W.C
namespace Go.Proofs.W.C
open Go Go.Proofs Go.Proofs.V Go.Proofs.W Go.RowKit
set_option linter.unusedVariables false
set_option linter.unusedSimpArgs false
set_option maxRecDepth 100000
mutual
theorem cellR_inj : ∀ (c : CT) (x x' : Tc c) (a : AV), cellR c x a → cellR c x' a → x = x'
  | .int k, x, x', a, h, h' => by cases h; cases h'; rfl
  | .bool, x, x', a, h, h' => by cases h; cases h'; rfl
  | .str, x, x', a, h, h' => by
    have e : a = .at (.string ⟨⟨x⟩⟩) := h
    have e' : a = .at (.string ⟨⟨x'⟩⟩) := h'
    rw [e] at e'
    simpa using e'
  | .flt k, x, x', a, h, h' => by cases h; cases h'; rfl
  | .cx k, x, x', a, h, h' => by
    have e : a = .at (.complex k x.1 x.2) := h
    have e' : a = .at (.complex k x'.1 x'.2) := h'
    rw [e] at e'
    simp only [AV.at.injEq, Value.complex.injEq, true_and] at e'
    exact Prod.ext e'.1 e'.2
  | .sl r, l, l', a, h, h' => by
    obtain ⟨rows, nl, own, rfl, h, h0⟩ := h
    obtain ⟨rows', nl', own', e, h', h0'⟩ := h'
    cases e
    clear h0 h0'
    induction rows generalizing l l' with
    | nil =>
      cases l with
      | nil => cases l' with
        | nil => rfl
        | cons => exact h'.elim
      | cons => exact h.elim
    | cons row rows ih =>
      cases l with
      | nil => exact h.elim
      | cons y l => cases l' with
        | nil => exact h'.elim
        | cons y' l' => rw [rowR_inj r y y' row h.1 h'.1, ih l l' h.2 h'.2]
theorem rowR_inj : ∀ (r : RT) (x x' : Tr r) (row : List AV), rowR r x row → rowR r x' row → x = x'
  | .one c, x, x', row, h, h' => by
    obtain ⟨a, rfl, h⟩ := h
    obtain ⟨a', e, h'⟩ := h'
    cases e
    exact cellR_inj c x x' a h h'
  | .cons c r, x, x', row, h, h' => by
    obtain ⟨a, rest, rfl, h1, h2⟩ := h
    obtain ⟨a', rest', e, h1', h2'⟩ := h'
    cases e
    exact Prod.ext (cellR_inj c _ _ _ h1 h1') (rowR_inj r _ _ _ h2 h2')
end
section
variable {a rs : List SV} {F : Tl (dynL a) → Option (Tl (dynL rs))} {out : List AV → Tl (dynL rs) → AV}
end
end Go.Proofs.W.C
