/- Rows in memory: as one's own, and as values. -/
import Derived.Test.YtdgihbbekacgcaaGreatDoorK31
import Derived.Laws.AppendOwn
import Derived.Laws.OwnMore
namespace Go.Proofs.W.C
open Go Go.Proofs Go.Proofs.V Go.Proofs.W Go.RowKit
set_option linter.unusedVariables false
set_option linter.unusedSimpArgs false
set_option maxRecDepth 100000
/-- A row's cells: how an element lies in memory. -/
structure Cells (r : RT) (sz : Nat) (cells : Tr r → List Value) : Prop where
  flat : flatRT r = true
  enc : ∀ x, encR r x = (cells x).map AV.at
  len : ∀ x, (cells x).length = sz
  plain : ∀ x, ∀ u ∈ cells x, AV.plain (.at u) = true
section
variable {r : RT} {sz : Nat} {cells : Tr r → List Value} (K : Cells r sz cells)
include K
theorem Cells.flen (l : List (Tr r)) : (l.flatMap cells).length = l.length * sz := by
  induction l with
  | nil => simp
  | cons x l ih => rw [List.flatMap_cons, List.length_append, ih, K.len, List.length_cons, Nat.add_mul]; omega
theorem Cells.at : ∀ (l : List (Tr r)) (i j : Nat) (x : Tr r) (u : Value), l[i]? = some x → (cells x)[j]? = some u → (l.flatMap cells)[i * sz + j]? = some u
  | [], i, j, x, u, h, _ => by simp at h
  | y :: l, 0, j, x, u, h, k => by
    simp at h
    subst h
    rw [List.flatMap_cons, Nat.zero_mul, Nat.zero_add, List.getElem?_append_left (List.getElem?_eq_some_iff.1 k).1]
    exact k
  | y :: l, i + 1, j, x, u, h, k => by
    rw [List.flatMap_cons, Nat.add_mul, List.getElem?_append_right (by rw [K.len]; omega), K.len, ← Cells.at l i j x u (by simpa using h) k]
    congr 1
    omega
theorem Cells.cellAt {l : List (Tr r)} {i j : Nat} {x : AV} (h : cellAt (l.map (encR r)) i j = some x) : ∃ y u, l[i]? = some y ∧ (cells y)[j]? = some u ∧ x = .at u := by
  unfold V.cellAt at h
  rw [List.getElem?_map] at h
  cases hy : l[i]? with
  | none => rw [hy] at h; cases h
  | some y =>
    rw [hy] at h
    have h : (encR r y)[j]? = some x := h
    rw [K.enc, List.getElem?_map] at h
    cases hu : (cells y)[j]? with
    | none => rw [hu] at h; cases h
    | some u => rw [hu] at h; cases h; exact ⟨y, u, rfl, hu, rfl⟩
theorem slR_cells {w : World} {g off cap : Nat} {l : List (Tr r)} (hc : l.length ≤ cap) (h : ∀ j u, (l.flatMap cells)[j]? = some u → w.cell? ⟨g, off + j, none⟩ = some u) : SlR r w (.slice (some ⟨g, off, none⟩) l.length cap) l := by
  refine ⟨false, fun e => (by cases e), ?_⟩
  have cell : ∀ i j x, cellAt (l.map (encR r)) i j = some x → ∃ u, x = .at u ∧ AV.plain x = true ∧ w.cell? ⟨g, off + (i * sz + j), none⟩ = some u := by
    intro i j x hx
    obtain ⟨y, u, hy, hu, rfl⟩ := K.cellAt hx
    exact ⟨u, rfl, K.plain y u (List.mem_of_getElem? hu), h _ _ (K.at l i j y u hy hu)⟩
  have := R1.slice (S := cellsOf w) (E := noE) (l.map (encR r)) .no g off cap sz (fun i j => ((w.cell? ⟨g, off + (i * sz + j), none⟩).getD default)) (by rw [List.length_map]; exact hc)
    (fun row hr => by obtain ⟨q, hq, rfl⟩ := List.mem_map.1 hr; rw [K.enc, List.length_map]; exact K.len q) (fun e => by cases e) (fun i j x hx => by obtain ⟨u, _, h, _⟩ := cell i j x hx; exact h)
    (fun i j x hx => by obtain ⟨u, _, _, hu⟩ := cell i j x hx; show w.cell? _ = _; rw [hu]; rfl)
    (fun i j x hx => by obtain ⟨u, rfl, _, hu⟩ := cell i j x hx; rw [hu]; exact .at _)
  rwa [List.length_map] at this
theorem slR_form {w : World} {v : Value} {l : List (Tr r)} (h : SlR r w v l) : (v = .slice none 0 0 ∧ l = []) ∨ ∃ b off cap, v = .slice (some ⟨b, off, none⟩) l.length cap ∧ l.length ≤ cap ∧ ∀ j u, (l.flatMap cells)[j]? = some u → w.cell? ⟨b, off + j, none⟩ = some u := by
  obtain ⟨nl, h1, h2⟩ := h
  generalize hg : l.map (encR r) = rows at h2
  cases h2 with
  | nil =>
    have : l = [] := List.map_eq_nil_iff.1 hg
    exact .inl ⟨rfl, this⟩
  | slice rows own b off cap sz' val hlen hsz hfull hpl hS hR =>
    have hl : l.length = rows.length := by rw [← hg, List.length_map]
    refine .inr ⟨b, off, cap, by rw [hl], by rw [hl]; exact hlen, fun j u hj => ?_⟩
    have hjl : j < l.length * sz := by rw [← Cells.flen K]; exact (List.getElem?_eq_some_iff.1 hj).1
    have hsz0 : 0 < sz := by
      rcases Nat.eq_zero_or_pos sz with h | h
      · rw [h] at hjl; omega
      · exact h
    have hi : j / sz < l.length := Nat.div_lt_of_lt_mul (by rw [Nat.mul_comm]; exact hjl)
    have hm : j % sz < sz := Nat.mod_lt _ hsz0
    have hjs : j / sz * sz + j % sz = j := by rw [Nat.mul_comm]; exact Nat.div_add_mod j sz
    have hlu := List.getElem?_eq_getElem hi
    have hcu : (cells l[j / sz])[j % sz]? = some ((cells l[j / sz])[j % sz]'(by rw [K.len]; exact hm)) := List.getElem?_eq_getElem _
    have h3 := K.at l (j / sz) (j % sz) _ _ hlu hcu
    rw [hjs, hj] at h3
    have hca : cellAt rows (j / sz) (j % sz) = some (.at u) := by
      unfold V.cellAt
      rw [← hg, List.getElem?_map, hlu]
      show (encR r _)[j % sz]? = _
      rw [K.enc, List.getElem?_map, hcu, ← h3]
      rfl
    have hss : sz' = sz := by
      rw [← hsz (encR r l[j / sz]) (by rw [← hg]; exact List.mem_map.2 ⟨_, List.getElem_mem hi, rfl⟩), K.enc, List.length_map, K.len]
    have h4 := hS _ _ _ hca
    have h5 := hR _ _ _ hca
    rw [hss, hjs] at h4
    generalize val (j / sz) (j % sz) = q at h4 h5
    cases h5
    exact h4
theorem SlR.len {w : World} {v : Value} {l : List (Tr r)} (h : SlR r w v l) : ∃ ao cap, v = .slice ao l.length cap := by
  rcases slR_form K h with ⟨rfl, rfl⟩ | ⟨b, off, cap, rfl, _⟩
  · exact ⟨none, 0, rfl⟩
  · exact ⟨_, cap, rfl⟩
end
end Go.Proofs.W.C
namespace Go.Proofs.W.C
open Go Go.Proofs Go.Proofs.V Go.Proofs.W Go.RowKit
set_option linter.unusedVariables false
set_option linter.unusedSimpArgs false
set_option maxRecDepth 100000
/-- Cells that came into being. -/
def newCells (w w' : World) : Addr → Option Value := fun ad => if ad.block < w.heap.size then none else w'.cell? ad
/-- A function that was walked: its result's new cells alone are told. -/
theorem csound_walk {P : Program} {g : Nat} {xs : List AV} {rv : AV} {fn : Func} {c : Code} (hf : P.funcs[g]? = some fn) (hb : fn.body = some c) (hname : (fn.name == "runtime.NumGoroutine") = false)
    (hno : ∀ x ∈ parts rv, ∀ rows nl o, x = .slice rows nl o → o = .no)
    (H : ∀ (w : World) (E : Nat → Option Nat) (vs : List Value), vs.length = xs.length → (∀ (j : Nat) (x : AV) (v : Value), xs[j]? = some x → vs[j]? = some v → R1 (cellsOf w) E x v) →
      Calls P g vs.toArray w fun e w' => ∃ v, e = .returned v ∧ Below w.heap.size w w' ∧ R1 (newCells w w') E rv v) : CSound P g xs [] rv [] := by
  intro w S E vs hp hni hl hR
  have hcall : (callFunc g vs.toArray).run P w = .ok (.enter g vs.toArray) w := by
    simp [callFunc, Sem.run_bind, hf, hb]
    intro hn
    simp [hn] at hname
  refine .inr ⟨hcall, fun n => callsIn_wide.2 ((H w E vs hl fun j x v hx hv => (hR j x v hx hv).mono (fun a u h => hp.mem a u h) (fun l b h => h)).mono fun e w' => ?_)⟩
  rintro ⟨v, rfl, hbel, hr⟩
  refine ⟨v, rfl, fun ad => if ad.block < w.heap.size then S ad else w'.cell? ad, E, fun _ => ⟨0, 0, 0, 0⟩, ?_⟩
  have hlt : ∀ ad u, S ad = some u → ad.block < w.heap.size := fun ad u h => World.block_lt_of_cell? w ad (hp.mem ad u h)
  have hfr : ∀ (j : Nat) rows nl, (parts rv)[j]? ≠ some (.slice rows nl .fresh) := fun j rows nl h => by
    have := hno _ (List.mem_of_getElem? h) rows nl .fresh rfl
    cases this
  exact
    { bel := ⟨hbel.os, hbel.tape, hbel.output, hbel.size, fun k hk _ => hbel.block k hk⟩
      sS := fun ad u h => by rw [if_pos (hlt ad u h)]; exact h
      sN := fun ad h hb => by rw [if_pos hb]; exact h
      mem := fun ad u h => by
        dsimp only at h
        split at h
        · rename_i hb
          exact (hbel.cell hb).trans (hp.mem ad u h)
        · exact h
      eS := fun l b h => h
      eN := fun l b h0 hb => by rw [h0] at hb; cases hb
      eH := hp.eH
      heap := fun l cs hl => by simp at hl
      inj := hp.inj
      rv := hr.mono (fun ad u h => by
        unfold newCells at h
        split at h
        · cases h
        · rename_i hb
          rw [if_neg hb]; exact h) (fun l b h => h)
      nid := by
        rintro n ⟨y, hy, rows, nl, rfl⟩
        have := hno _ hy rows nl (.id n) rfl
        cases this
      fresh := fun j u rows nl hx => absurd hx (hfr j rows nl)
      apart := fun j j' rows nl rows' nl' hx => absurd hx (hfr j rows nl) }
theorem flatten_at : ∀ {rows : List (List Value)} {sz : Nat} (hsz : ∀ r ∈ rows, r.length = sz) {i j : Nat} {r : List Value} {u : Value}, rows[i]? = some r → r[j]? = some u → rows.flatten[i * sz + j]? = some u
  | [], _, _, i, j, r, u, h, _ => by simp at h
  | a :: rows, sz, hsz, 0, j, r, u, h, k => by
    simp at h
    subst h
    rw [List.flatten_cons, Nat.zero_mul, Nat.zero_add, List.getElem?_append_left (List.getElem?_eq_some_iff.1 k).1]
    exact k
  | a :: rows, sz, hsz, i + 1, j, r, u, h, k => by
    have ha := hsz a (by simp)
    rw [List.flatten_cons, Nat.add_mul, List.getElem?_append_right (by rw [ha]; omega), ha]
    have := flatten_at (rows := rows) (fun r hr => hsz r (List.mem_cons_of_mem _ hr)) (i := i) (j := j) (by simpa using h) k
    rw [← this]
    congr 1
    omega
theorem cellAt_at {rows : List (List Value)} {i j : Nat} {x : AV} (h : cellAt (rows.map (·.map AV.at)) i j = some x) : ∃ r u, rows[i]? = some r ∧ r[j]? = some u ∧ x = .at u := by
  unfold cellAt at h
  rw [List.getElem?_map] at h
  cases hr : rows[i]? with
  | none => rw [hr] at h; cases h
  | some r =>
    rw [hr] at h
    have h : (r.map AV.at)[j]? = some x := h
    rw [List.getElem?_map] at h
    cases hu : r[j]? with
    | none => rw [hu] at h; cases h
    | some u => rw [hu] at h; cases h; exact ⟨r, u, rfl, hu, rfl⟩
/-- Rows of plain values that are one's own. -/
theorem own_rows {w : World} {base e sz : Nat} {v : Value} {rows : List (List Value)} (h : w.ownsRow base e sz v rows.length rows.flatten) (hsz : ∀ r ∈ rows, r.length = sz) (hpl : ∀ r ∈ rows, ∀ u ∈ r, AV.plain (.at u) = true) (hn : rows = [] → v = .slice none 0 0) (S : Addr → Option Value) (E : Nat → Option Nat)
    (hS : ∀ g i u, base ≤ g → w.cell? ⟨g, i, none⟩ = some u → S ⟨g, i, none⟩ = some u) : R1 S E (.slice (rows.map (·.map AV.at)) rows.isEmpty .no) v := by
  cases rows with
  | nil => rw [hn rfl]; exact .nil _
  | cons r0 l0 =>
    rcases h.2 with ⟨_, h0⟩ | ⟨g, cap, cur, hv, hbase, hrest⟩
    · cases h0
    · subst hv
      have cell : ∀ i j x, cellAt ((r0 :: l0).map (·.map AV.at)) i j = some x → ∃ u, x = .at u ∧ AV.plain x = true ∧ w.cell? ⟨g, i * sz + j, none⟩ = some u := by
        intro i j x hx
        obtain ⟨r, u, hr, hu, rfl⟩ := cellAt_at hx
        have h1 := h.cells (g := g) rfl (i * sz + j) u (flatten_at hsz hr hu)
        rw [Addr.add_lit, Nat.zero_add] at h1
        exact ⟨u, rfl, hpl r (List.mem_of_getElem? hr) u (List.mem_of_getElem? hu), h1⟩
      have := R1.slice (S := S) (E := E) ((r0 :: l0).map (·.map AV.at)) .no g 0 cap sz (fun i j => ((w.cell? ⟨g, i * sz + j, none⟩).getD default)) (by rw [List.length_map]; exact hrest.2.1)
        (fun r hr => by obtain ⟨q, hq, rfl⟩ := List.mem_map.1 hr; rw [List.length_map]; exact hsz q hq) (fun e => by cases e) (fun i j x hx => by obtain ⟨u, _, h, _⟩ := cell i j x hx; exact h)
        (fun i j x hx => by obtain ⟨u, _, _, hu⟩ := cell i j x hx; rw [Nat.zero_add, hu]; exact hS g _ u hbase hu)
        (fun i j x hx => by obtain ⟨u, rfl, _, hu⟩ := cell i j x hx; rw [hu]; exact .at _)
      rwa [List.length_map] at this
theorem new_rows {w w' : World} {base e sz : Nat} (hbase : w.heap.size ≤ base) {v : Value} {rows : List (List Value)} (h : w'.ownsRow base e sz v rows.length rows.flatten) (hsz : ∀ r ∈ rows, r.length = sz) (hpl : ∀ r ∈ rows, ∀ u ∈ r, AV.plain (.at u) = true) (hn : rows = [] → v = .slice none 0 0) (E : Nat → Option Nat) :
    R1 (newCells w w') E (.slice (rows.map (·.map AV.at)) rows.isEmpty .no) v :=
  own_rows h hsz hpl hn _ _ fun g i u hg hu => by
    unfold newCells
    rw [if_neg (by dsimp only; omega)]
    exact hu
/-- A row of elements that came into being. -/
theorem new_cells {r : RT} {sz : Nat} {cells : Tr r → List Value} (K : Cells r sz cells) {w w' : World} {base e : Nat} (hbase : w.heap.size ≤ base) {v : Value} {l : List (Tr r)} (h : w'.ownsRow base e sz v l.length (l.flatMap cells)) (hn : l = [] → v = .slice none 0 0) (E : Nat → Option Nat) :
    R1 (newCells w w') E (.slice (l.map (encR r)) l.isEmpty .no) v := by
  have := new_rows (rows := l.map cells) hbase (e := e) (sz := sz) (v := v) (by rw [List.length_map]; exact h) (fun r hr => by obtain ⟨e, _, rfl⟩ := List.mem_map.1 hr; exact K.len e) (fun r hr u hu => by
    obtain ⟨e, _, rfl⟩ := List.mem_map.1 hr
    exact K.plain e u hu) (fun e => hn (by simpa using e)) E
  rw [List.map_map, List.isEmpty_map] at this
  have hm : (fun x => List.map AV.at x) ∘ cells = encR r := funext fun x => (K.enc x).symm
  rw [hm] at this
  exact this
mutual
theorem cellR_inj : ∀ (c : CT) (x x' : Tc c) (a : AV), cellR c x a → cellR c x' a → x = x'
  | .int k, x, x', a, h, h' => by cases h; cases h'; rfl
  | .bool, x, x', a, h, h' => by cases h; cases h'; rfl
  | .str, x, x', a, h, h' => by
    have e : a = .at (.string ⟨⟨x⟩⟩) := h
    have e' : a = .at (.string ⟨⟨x'⟩⟩) := h'
    rw [e] at e'
    simpa using e'
  | .flt k, x, x', a, h, h' => by cases h; cases h'; rfl
  | .cx k, x, x', a, h, h' => by
    have e : a = .at (.complex k x.1 x.2) := h
    have e' : a = .at (.complex k x'.1 x'.2) := h'
    rw [e] at e'
    simp only [AV.at.injEq, Value.complex.injEq, true_and] at e'
    exact Prod.ext e'.1 e'.2
  | .sl r, l, l', a, h, h' => by
    obtain ⟨rows, nl, own, rfl, h, h0⟩ := h
    obtain ⟨rows', nl', own', e, h', h0'⟩ := h'
    cases e
    clear h0 h0'
    induction rows generalizing l l' with
    | nil =>
      cases l with
      | nil => cases l' with
        | nil => rfl
        | cons => exact h'.elim
      | cons => exact h.elim
    | cons row rows ih =>
      cases l with
      | nil => exact h.elim
      | cons y l => cases l' with
        | nil => exact h'.elim
        | cons y' l' => rw [rowR_inj r y y' row h.1 h'.1, ih l l' h.2 h'.2]
theorem rowR_inj : ∀ (r : RT) (x x' : Tr r) (row : List AV), rowR r x row → rowR r x' row → x = x'
  | .one c, x, x', row, h, h' => by
    obtain ⟨a, rfl, h⟩ := h
    obtain ⟨a', e, h'⟩ := h'
    cases e
    exact cellR_inj c x x' a h h'
  | .cons c r, x, x', row, h, h' => by
    obtain ⟨a, rest, rfl, h1, h2⟩ := h
    obtain ⟨a', rest', e, h1', h2'⟩ := h'
    cases e
    exact Prod.ext (cellR_inj c _ _ _ h1 h1') (rowR_inj r _ _ _ h2 h2')
end
theorem arg2 {c1 c2 : CT} {x : Tc c1 × Tc c2} {xs : List AV} (h : ArgR [.c c1, .c c2] x xs) : ∃ a1 a2, xs = [a1, a2] ∧ WR Ono g0 (cellW c1 x.1) a1 ∧ WR Ono g0 (cellW c2 x.2) a2 := by
  obtain ⟨ws, hf, hw⟩ := h
  cases hf
  rcases xs with _ | ⟨a1, _ | ⟨a2, _ | ⟨_, _⟩⟩⟩ <;> first | exact hw.elim | exact hw.2.elim | exact hw.2.2.elim | skip
  exact ⟨a1, a2, rfl, hw.1, hw.2.1⟩
/-- What a walked function is, for the evaluator. -/
noncomputable def wExt (a rs : List SV) (F : Tl (dynL a) → Option (Tl (dynL rs))) (out : List AV → Tl (dynL rs) → AV) (xs : List AV) : Option AV := by
  classical
  exact if h : ∃ x y, ArgR a x xs ∧ F x = some y then some (out xs (Classical.choose (Classical.choose_spec h))) else none
section
variable {a rs : List SV} {F : Tl (dynL a) → Option (Tl (dynL rs))} {out : List AV → Tl (dynL rs) → AV}
theorem wExt_some {xs : List AV} {rv : AV} (h : wExt a rs F out xs = some rv) : ∃ x y, ArgR a x xs ∧ F x = some y ∧ rv = out xs y := by
  unfold wExt at h
  split at h
  · rename_i hx
    cases h
    have := Classical.choose_spec (Classical.choose_spec hx)
    exact ⟨_, _, this.1, this.2, rfl⟩
  · cases h
theorem wExt_csound {P : Program} {g : Nat} {fn : Func} {c : Code} (hf : P.funcs[g]? = some fn) (hb : fn.body = some c) (hname : (fn.name == "runtime.NumGoroutine") = false)
    (hno : ∀ xs y, ∀ x ∈ parts (out xs y), ∀ rows nl o, x = .slice rows nl o → o = .no)
    (H : ∀ (x : Tl (dynL a)) (y : Tl (dynL rs)) (xs : List AV) (w : World) (E : Nat → Option Nat) (vs : List Value), ArgR a x xs → F x = some y → vs.length = xs.length → (∀ (j : Nat) (x : AV) (v : Value), xs[j]? = some x → vs[j]? = some v → R1 (cellsOf w) E x v) →
      Calls P g vs.toArray w fun e w' => ∃ v, e = .returned v ∧ Below w.heap.size w w' ∧ R1 (newCells w w') E (out xs y) v) {xs : List AV} {rv : AV} (h : wExt a rs F out xs = some rv) : CSound P g xs [] rv [] := by
  obtain ⟨x, y, ha, hF, rfl⟩ := wExt_some h
  exact csound_walk hf hb hname (hno xs y) fun w E vs hl hR => H x y xs w E vs ha hF hl hR
end
theorem at2 {c1 c2 : CT} (f1 : flatC c1 = true) (f2 : flatC c2 = true) {x : Tc c1 × Tc c2} {xs : List AV} {w : World} {E : Nat → Option Nat} {vs : List Value} (h : ArgR [.c c1, .c c2] x xs) (hl : vs.length = xs.length) (hR : ∀ (j : Nat) (x : AV) (v : Value), xs[j]? = some x → vs[j]? = some v → R1 (cellsOf w) E x v) : ∃ v1 v2, vs = [v1, v2] ∧ CR c1 x.1 w v1 ∧ CR c2 x.2 w v2 := by
  obtain ⟨a1, a2, rfl, h1, h2⟩ := arg2 h
  rcases vs with _ | ⟨v1, _ | ⟨v2, _ | ⟨_, _⟩⟩⟩ <;> first | (simp at hl; done) | skip
  exact ⟨v1, v2, rfl, cr_res f1 h1 (hR 0 _ _ rfl rfl), cr_res f2 h2 (hR 1 _ _ rfl rfl)⟩
/-- A row, as a result. -/
def outS (r : RT) (l : List (Tr r)) : AV := .slice (l.map (encR r)) l.isEmpty .no
theorem noS {r : RT} (l : List (Tr r)) : ∀ x ∈ parts (outS r l), ∀ rows nl o, x = .slice rows nl o → o = .no := by
  intro x hx rows nl o e
  subst e
  simp [parts, outS] at hx
  exact hx.2.2
end Go.Proofs.W.C
