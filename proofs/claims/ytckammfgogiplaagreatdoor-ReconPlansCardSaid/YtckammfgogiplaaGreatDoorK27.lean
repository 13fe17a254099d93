/- recon.Settle, walked. -/
import Derived.Test.YtckammfgogiplaaGreatDoorK26
import Derived.Deep.RegionHeld3
import Derived.Deep.DrawnRows
import Derived.Laws.StructEq
import Derived.Test.YtckammfgogiplaaGreatDoorK21
import Derived.Test.YtckammfgogiplaaGreatDoorK17
namespace Go.Proofs.V.R10
open Go Go.Proofs Go.RowKit Go.Maps
set_option linter.unusedVariables false
set_option linter.unusedSimpArgs false
attribute [local go_sem ↓] Go.wp_at_zero Go.wp_at_succ
/-- What Settle is told by those whom it calls. -/
structure SHyp (w : World) (v1 v2 : Value) (l1 l2 : List En) (p : List UInt8) (n : Int) (k1 k2 : Nat) (e1 e2 : En) (c : Int × Int) (z y : Nat × Nat) (c' : Int × Int) (lF : List En) (mE : Int) : Prop where
  s1 : Sl w v1 l1
  s2 : Sl w v2 l2
  n1 : l1.length ≤ 64
  n2 : l2.length ≤ 64
  h1 : l1[k1]? = some e1
  h2 : l2[k2]? = some e2
  find : ∀ v k wr, ((v = v1 ∧ k = k1) ∨ (v = v2 ∧ k = k2)) → Below w.heap.size w wr → Calls Tryz.prog 27 #[v, .string ⟨⟨p⟩⟩] wr fun e w' => e = .returned (.int .i64 (k : Nat)) ∧ Below wr.heap.size wr w'
  joined : ∀ wr, Calls Tryz.prog 52 #[valE e1, valE e2] wr fun e w' => e = .returned (.agg #[.string ⟨⟨e1.1⟩⟩, .bool e1.2.1, .string ⟨⟨e1.2.2.1⟩⟩, .int .i64 c.1, .int .i64 c.2]) ∧ Below wr.heap.size wr w'
  of : ∀ wr, Calls Tryz.prog 55 #[.agg #[.int .i64 c.1, .int .i64 c.2]] wr fun e w' => e = .returned (.complex .f64 z.1 z.2) ∧ Below wr.heap.size wr w'
  tick : ∀ wr, Calls Tryz.prog 54 #[.complex .f64 z.1 z.2, .int .i64 n] wr fun e w' => e = .returned (.complex .f64 y.1 y.2) ∧ Below wr.heap.size wr w'
  may : ∀ v wr, Sl wr v lF → Calls Tryz.prog 38 #[v] wr fun e w' => e = .returned (.int .i64 mE) ∧ Below wr.heap.size wr w'
  pair : ∀ wr, Calls Tryz.prog 53 #[.complex .f64 y.1 y.2] wr fun e w' => e = .returned (.agg #[.int .i64 c'.1, .int .i64 c'.2]) ∧ Below wr.heap.size wr w'
theorem row_form {w : World} {v : Value} {l : List En} {k : Nat} {e : En} (h : Sl w v l) (hk : l[k]? = some e) : ∃ b off cap, v = .slice (some ⟨b, off, none⟩) l.length cap ∧ l.length ≤ cap ∧ w.cell? ⟨b, off + k * 5, none⟩ = some (.string ⟨⟨e.1⟩⟩) ∧ w.cell? ⟨b, off + k * 5 + 1, none⟩ = some (.bool e.2.1) ∧ w.cell? ⟨b, off + k * 5 + 2, none⟩ = some (.string ⟨⟨e.2.2.1⟩⟩) ∧ w.cell? ⟨b, off + k * 5 + 3, none⟩ = some (.int .i64 e.2.2.2.1) ∧ w.cell? ⟨b, off + k * 5 + 4, none⟩ = some (.int .i64 e.2.2.2.2) := by
  rcases h with ⟨_, rfl⟩ | ⟨b, off, cap, hv, hc, h⟩
  · simp at hk
  · exact ⟨b, off, cap, hv, hc, h.c0 _ _ hk, h.c1 _ _ hk, h.c2 _ _ hk, h.c3 _ _ hk, h.c4 _ _ hk⟩
theorem wp_seal {P : Program} {c : Code} {Q : Exit → Act → World → Prop} {a : Act} {w : World} (h : ∀ Q', Hid (∀ e a w, Q e a w → Q' e a w) → c.wp P Q' a w) : c.wp P Q a w := h Q (fun _ _ _ h => h)
theorem wp_mid {P : Program} {c : Code} {Q : Exit → Act → World → Prop} {a : Act} {w : World} (S : Nat → World → Prop) (F : Nat → Act) (h1 : ∀ Q', Hid (∀ r w, S r w → Q' .normal (F r) w) → c.wp P Q' a w) (h2 : ∀ r w, S r w → Q .normal (F r) w) : c.wp P Q a w := h1 Q h2
theorem swap_alloc {a w : World} {o o' : Obj} (h : Below a.heap.size a (w.alloc o)) (hB : a.heap.size ≤ w.heap.size) : Below a.heap.size a (w.alloc o') :=
  ⟨h.os, h.tape, h.output, by simp; omega, fun k hk => (Below.heap_alloc _ _ _ (by omega)).trans ((Below.heap_alloc w o k (by omega)).symm.trans (h.block k hk))⟩
theorem keep_cell {w w' : World} {a : Addr} {u : Value} (hb : Below w.heap.size w w') (hu : w.cell? a = some u) : w'.cell? a = some u := (hb.cell (World.block_lt_of_cell? w a hu)).trans hu
theorem mk5 {w w' : World} {a0 a1 a2 a3 a4 : Addr} {u0 u1 u2 u3 u4 : Value} (h : Below w.heap.size w w') (q0 : w.cell? a0 = some u0) (q1 : w.cell? a1 = some u1) (q2 : w.cell? a2 = some u2) (q3 : w.cell? a3 = some u3) (q4 : w.cell? a4 = some u4) :
    Below w.heap.size w w' ∧ w'.cell? a0 = some u0 ∧ w'.cell? a1 = some u1 ∧ w'.cell? a2 = some u2 ∧ w'.cell? a3 = some u3 ∧ w'.cell? a4 = some u4 := ⟨h, keep_cell h q0, keep_cell h q1, keep_cell h q2, keep_cell h q3, keep_cell h q4⟩
theorem fresh5 {w w' : World} {x0 x1 x2 x3 x4 : Value} {t : TypeId} (h : Below (w.alloc (.cells #[x0, x1, x2, x3, x4] t)).heap.size (w.alloc (.cells #[x0, x1, x2, x3, x4] t)) w') :
    w'.cell? ⟨w.heap.size, 0, none⟩ = some x0 ∧ w'.cell? ⟨w.heap.size, 1, none⟩ = some x1 ∧ w'.cell? ⟨w.heap.size, 2, none⟩ = some x2 ∧ w'.cell? ⟨w.heap.size, 3, none⟩ = some x3 ∧ w'.cell? ⟨w.heap.size, 4, none⟩ = some x4 ∧
    w'.frozen? ⟨w.heap.size, 0, none⟩ = false ∧ w'.frozen? ⟨w.heap.size, 1, none⟩ = false ∧ w'.frozen? ⟨w.heap.size, 2, none⟩ = false ∧ w'.frozen? ⟨w.heap.size, 3, none⟩ = false ∧ w'.frozen? ⟨w.heap.size, 4, none⟩ = false ∧ w.heap.size < w'.heap.size := by
  have hs := h.size
  have hc : ∀ j u, #[x0, x1, x2, x3, x4][j]? = some u → w'.cell? ⟨w.heap.size, j, none⟩ = some u := fun j u hu => by
    rw [h.cell (by simp)]
    simpa using hu
  have hf : ∀ j, w'.frozen? ⟨w.heap.size, j, none⟩ = false := fun j => by
    rw [h.frozen (by simp)]
    simp
  exact ⟨hc 0 _ rfl, hc 1 _ rfl, hc 2 _ rfl, hc 3 _ rfl, hc 4 _ rfl, hf _, hf _, hf _, hf _, hf _, by simp at hs; omega⟩
theorem fresh5d {w w' : World} {x0 x1 x2 x3 x4 : Value} {t : TypeId} (h : Below (w.alloc (.cells #[x0, x1, x2, x3, x4] t)).drew.heap.size (w.alloc (.cells #[x0, x1, x2, x3, x4] t)).drew w') :
    w'.cell? ⟨w.heap.size, 0, none⟩ = some x0 ∧ w'.cell? ⟨w.heap.size, 1, none⟩ = some x1 ∧ w'.cell? ⟨w.heap.size, 2, none⟩ = some x2 ∧ w'.cell? ⟨w.heap.size, 3, none⟩ = some x3 ∧ w'.cell? ⟨w.heap.size, 4, none⟩ = some x4 ∧
    w'.frozen? ⟨w.heap.size, 0, none⟩ = false ∧ w'.frozen? ⟨w.heap.size, 1, none⟩ = false ∧ w'.frozen? ⟨w.heap.size, 2, none⟩ = false ∧ w'.frozen? ⟨w.heap.size, 3, none⟩ = false ∧ w'.frozen? ⟨w.heap.size, 4, none⟩ = false ∧ w.heap.size < w'.heap.size := fresh5 (w := w) (t := t) ⟨h.os, h.tape, h.output, h.size, h.block⟩
theorem keep5 {w w' : World} {r : Nat} {x0 x1 x2 x3 x4 : Value} (h : Below w.heap.size w w') (hr : r < w.heap.size) (y0 : w.cell? ⟨r, 0, none⟩ = some x0) (y1 : w.cell? ⟨r, 1, none⟩ = some x1) (y2 : w.cell? ⟨r, 2, none⟩ = some x2) (y3 : w.cell? ⟨r, 3, none⟩ = some x3) (y4 : w.cell? ⟨r, 4, none⟩ = some x4)
    (z0 : w.frozen? ⟨r, 0, none⟩ = false) (z1 : w.frozen? ⟨r, 1, none⟩ = false) (z2 : w.frozen? ⟨r, 2, none⟩ = false) (z3 : w.frozen? ⟨r, 3, none⟩ = false) (z4 : w.frozen? ⟨r, 4, none⟩ = false) :
    w'.cell? ⟨r, 0, none⟩ = some x0 ∧ w'.cell? ⟨r, 1, none⟩ = some x1 ∧ w'.cell? ⟨r, 2, none⟩ = some x2 ∧ w'.cell? ⟨r, 3, none⟩ = some x3 ∧ w'.cell? ⟨r, 4, none⟩ = some x4 ∧
    w'.frozen? ⟨r, 0, none⟩ = false ∧ w'.frozen? ⟨r, 1, none⟩ = false ∧ w'.frozen? ⟨r, 2, none⟩ = false ∧ w'.frozen? ⟨r, 3, none⟩ = false ∧ w'.frozen? ⟨r, 4, none⟩ = false ∧ r < w'.heap.size := by
  have hs := h.size
  have hf : ∀ j, w'.frozen? ⟨r, j, none⟩ = w.frozen? ⟨r, j, none⟩ := fun j => h.frozen hr
  exact ⟨keep_cell h y0, keep_cell h y1, keep_cell h y2, keep_cell h y3, keep_cell h y4, (hf _).trans z0, (hf _).trans z1, (hf _).trans z2, (hf _).trans z3, (hf _).trans z4, by omega⟩
theorem store5 {B : Nat} {a w : World} {r : Nat} {x0 x1 x2 x3 x4 : Value} (h : Below B a w) (hr : B ≤ r) : Below B a (((((w.setCell ⟨r, 0, none⟩ x0).setCell ⟨r, 1, none⟩ x1).setCell ⟨r, 2, none⟩ x2).setCell ⟨r, 3, none⟩ x3).setCell ⟨r, 4, none⟩ x4) :=
  ((((h.setCell hr x0).setCell hr x1).setCell hr x2).setCell hr x3).setCell hr x4
/-- Five cells that lie in a block. -/
def At5 (w : World) (r : Nat) (e : En) : Prop := w.cell? ⟨r, 0, none⟩ = some (.string ⟨⟨e.1⟩⟩) ∧ w.cell? ⟨r, 1, none⟩ = some (.bool e.2.1) ∧ w.cell? ⟨r, 2, none⟩ = some (.string ⟨⟨e.2.2.1⟩⟩) ∧ w.cell? ⟨r, 3, none⟩ = some (.int .i64 e.2.2.2.1) ∧ w.cell? ⟨r, 4, none⟩ = some (.int .i64 e.2.2.2.2)
theorem at5_alloc (w : World) (e : En) : At5 (w.alloc (.cells #[.string ⟨⟨e.1⟩⟩, .bool e.2.1, .string ⟨⟨e.2.2.1⟩⟩, .int .i64 e.2.2.2.1, .int .i64 e.2.2.2.2] 34)) w.heap.size e := by
  have h := cell_five w (.string ⟨⟨e.1⟩⟩) (.bool e.2.1) (.string ⟨⟨e.2.2.1⟩⟩) (.int .i64 e.2.2.2.1) (.int .i64 e.2.2.2.2) 34
  simp only [addr_add] at h
  exact ⟨h 0 _ rfl, h 1 _ rfl, h 2 _ rfl, h 3 _ rfl, h 4 _ rfl⟩
theorem at5_store {w : World} {r : Nat} {e : En} {x0 x1 x2 x3 x4 : Value} (y0 : w.cell? ⟨r, 0, none⟩ = some x0) (y1 : w.cell? ⟨r, 1, none⟩ = some x1) (y2 : w.cell? ⟨r, 2, none⟩ = some x2) (y3 : w.cell? ⟨r, 3, none⟩ = some x3) (y4 : w.cell? ⟨r, 4, none⟩ = some x4) :
    At5 (((((w.setCell ⟨r, 0, none⟩ (.string ⟨⟨e.1⟩⟩)).setCell ⟨r, 1, none⟩ (.bool e.2.1)).setCell ⟨r, 2, none⟩ (.string ⟨⟨e.2.2.1⟩⟩)).setCell ⟨r, 3, none⟩ (.int .i64 e.2.2.2.1)).setCell ⟨r, 4, none⟩ (.int .i64 e.2.2.2.2)) r e := by
  have h := World.cell?_setCells_in r [.string ⟨⟨e.1⟩⟩, .bool e.2.1, .string ⟨⟨e.2.2.1⟩⟩, .int .i64 e.2.2.2.1, .int .i64 e.2.2.2.2] 0 w (fun j hj => by
    have h5 : j = 0 ∨ j = 1 ∨ j = 2 ∨ j = 3 ∨ j = 4 := by simp at hj; omega
    rcases h5 with h | h | h | h | h <;> subst h <;> simp [*])
  simp only [Nat.zero_add] at h
  exact ⟨h 0 (by simp), h 1 (by simp), h 2 (by simp), h 3 (by simp), h 4 (by simp)⟩
theorem gfacts {w : World} {base g n cap k : Nat} {l : List En} {e : En} (h : w.ownsRow base 34 5 (.slice (some ⟨g, 0, none⟩) n cap) n (l.flatMap cellsE)) (hk : l[k]? = some e) :
    w.cell? ⟨g, k * 5, none⟩ = some (.string ⟨⟨e.1⟩⟩) ∧ w.cell? ⟨g, k * 5 + 1, none⟩ = some (.bool e.2.1) ∧ w.cell? ⟨g, k * 5 + 2, none⟩ = some (.string ⟨⟨e.2.2.1⟩⟩) ∧ w.cell? ⟨g, k * 5 + 3, none⟩ = some (.int .i64 e.2.2.2.1) ∧ w.cell? ⟨g, k * 5 + 4, none⟩ = some (.int .i64 e.2.2.2.2) ∧
    w.frozen? ⟨g, k * 5, none⟩ = false ∧ w.frozen? ⟨g, k * 5 + 1, none⟩ = false ∧ w.frozen? ⟨g, k * 5 + 2, none⟩ = false ∧ w.frozen? ⟨g, k * 5 + 3, none⟩ = false ∧ w.frozen? ⟨g, k * 5 + 4, none⟩ = false := by
  have hlt : k < l.length := (List.getElem?_eq_some_iff.1 hk).1
  have hn : l.length * 5 = n * 5 := by rw [← h.1, cellsE_len]
  have hc : ∀ j u, j < 5 → (cellsE e)[j]? = some u → w.cell? ⟨g, k * 5 + j, none⟩ = some u := fun j u hj hu => by
    rw [h.cellAt _ (by omega), cellsE_at hk j hj, hu]
  exact ⟨hc 0 _ (by omega) rfl, hc 1 _ (by omega) rfl, hc 2 _ (by omega) rfl, hc 3 _ (by omega) rfl, hc 4 _ (by omega) rfl, h.frozenAt _, h.frozenAt _, h.frozenAt _, h.frozenAt _, h.frozenAt _⟩
theorem set_cell (e' : En) : ∀ (l : List En) (k : Nat), k < l.length →
    ((((((l.flatMap cellsE).set (k * 5) (.string ⟨⟨e'.1⟩⟩)).set (k * 5 + 1) (.bool e'.2.1)).set (k * 5 + 2) (.string ⟨⟨e'.2.2.1⟩⟩)).set (k * 5 + 3) (.int .i64 e'.2.2.2.1)).set (k * 5 + 4) (.int .i64 e'.2.2.2.2)) = (l.set k e').flatMap cellsE
  | a :: l, 0, _ => by simp [cellsE]
  | a :: l, k + 1, h => by
    have ih := set_cell e' l k (by simpa using h)
    have e5 : (cellsE a).length = 5 := rfl
    simp only [List.flatMap_cons, List.set_cons_succ]
    rw [← ih]
    rw [List.set_append_right _ _ (by omega), List.set_append_right _ _ (by omega), List.set_append_right _ _ (by omega), List.set_append_right _ _ (by omega), List.set_append_right _ _ (by omega), e5]
    congr 1
    have h0 : (k + 1) * 5 - 5 = k * 5 := by omega
    have h1 : (k + 1) * 5 + 1 - 5 = k * 5 + 1 := by omega
    have h2 : (k + 1) * 5 + 2 - 5 = k * 5 + 2 := by omega
    have h3 : (k + 1) * 5 + 3 - 5 = k * 5 + 3 := by omega
    have h4 : (k + 1) * 5 + 4 - 5 = k * 5 + 4 := by omega
    rw [h0, h1, h2, h3, h4]
theorem set_two (e : En) (b : Bool) (d : List UInt8) : ∀ (l : List En) (k : Nat), l[k]? = some e →
    (((l.flatMap cellsE).set (k * 5 + 1) (.bool b)).set (k * 5 + 2) (.string ⟨⟨d⟩⟩)) = (l.set k (e.1, b, d, e.2.2.2)).flatMap cellsE
  | a :: l, 0, h => by simp at h; subst h; simp [cellsE]
  | a :: l, k + 1, h => by
    have ih := set_two e b d l k (by simpa using h)
    have e5 : (cellsE a).length = 5 := rfl
    simp only [List.flatMap_cons, List.set_cons_succ]
    rw [← ih]
    rw [List.set_append_right _ _ (by omega), List.set_append_right _ _ (by omega), e5]
    congr 1
    have h1 : (k + 1) * 5 + 1 - 5 = k * 5 + 1 := by omega
    have h2 : (k + 1) * 5 + 2 - 5 = k * 5 + 2 := by omega
    rw [h1, h2]
  | [], k, h => by simp at h
theorem row_set {w : World} {base g n cap k : Nat} {l : List En} (e' : En) (h : w.ownsRow base 34 5 (.slice (some ⟨g, 0, none⟩) n cap) n (l.flatMap cellsE)) (hk : k < l.length) :
    (((((w.setCell ⟨g, k * 5, none⟩ (.string ⟨⟨e'.1⟩⟩)).setCell ⟨g, k * 5 + 1, none⟩ (.bool e'.2.1)).setCell ⟨g, k * 5 + 2, none⟩ (.string ⟨⟨e'.2.2.1⟩⟩)).setCell ⟨g, k * 5 + 3, none⟩ (.int .i64 e'.2.2.2.1)).setCell ⟨g, k * 5 + 4, none⟩ (.int .i64 e'.2.2.2.2)).ownsRow base 34 5 (.slice (some ⟨g, 0, none⟩) n cap) n ((l.set k e').flatMap cellsE) := by
  rw [← set_cell e' l k hk]
  exact ((((h.stored _ _).1.stored _ _).1.stored _ _).1.stored _ _).1.stored _ _ |>.1
theorem row_two {w : World} {base g n cap k : Nat} {l : List En} {e : En} (b : Bool) (d : List UInt8) (h : w.ownsRow base 34 5 (.slice (some ⟨g, 0, none⟩) n cap) n (l.flatMap cellsE)) (hk : l[k]? = some e) :
    ((w.setCell ⟨g, k * 5 + 1, none⟩ (.bool b)).setCell ⟨g, k * 5 + 2, none⟩ (.string ⟨⟨d⟩⟩)).ownsRow base 34 5 (.slice (some ⟨g, 0, none⟩) n cap) n ((l.set k (e.1, b, d, e.2.2.2)).flatMap cellsE) := by
  rw [← set_two e b d l k hk]
  exact ((h.stored _ _).1.stored _ _).1
theorem fresh2 {w w' : World} {x0 x1 : Value} {t : TypeId} (h : Below (w.alloc (.cells #[x0, x1] t)).heap.size (w.alloc (.cells #[x0, x1] t)) w') :
    w'.cell? ⟨w.heap.size, 0, none⟩ = some x0 ∧ w'.cell? ⟨w.heap.size, 1, none⟩ = some x1 ∧ w'.frozen? ⟨w.heap.size, 0, none⟩ = false ∧ w'.frozen? ⟨w.heap.size, 1, none⟩ = false ∧ w.heap.size < w'.heap.size := by
  have hs := h.size
  have hc : ∀ j u, #[x0, x1][j]? = some u → w'.cell? ⟨w.heap.size, j, none⟩ = some u := fun j u hu => by
    rw [h.cell (by simp)]
    simpa using hu
  have hf : ∀ j, w'.frozen? ⟨w.heap.size, j, none⟩ = false := fun j => by
    rw [h.frozen (by simp)]
    simp
  exact ⟨hc 0 _ rfl, hc 1 _ rfl, hf _, hf _, by simp at hs; omega⟩
theorem fresh2d {w w' : World} {x0 x1 : Value} {t : TypeId} (h : Below (w.alloc (.cells #[x0, x1] t)).drew.heap.size (w.alloc (.cells #[x0, x1] t)).drew w') :
    w'.cell? ⟨w.heap.size, 0, none⟩ = some x0 ∧ w'.cell? ⟨w.heap.size, 1, none⟩ = some x1 ∧ w'.frozen? ⟨w.heap.size, 0, none⟩ = false ∧ w'.frozen? ⟨w.heap.size, 1, none⟩ = false ∧ w.heap.size < w'.heap.size := fresh2 (w := w) (t := t) ⟨h.os, h.tape, h.output, h.size, h.block⟩
def At2 (w : World) (r : Nat) (c : Int × Int) : Prop := w.cell? ⟨r, 0, none⟩ = some (.int .i64 c.1) ∧ w.cell? ⟨r, 1, none⟩ = some (.int .i64 c.2)
theorem store2 {B : Nat} {a w : World} {r : Nat} {x0 x1 : Value} (h : Below B a w) (hr : B ≤ r) : Below B a ((w.setCell ⟨r, 0, none⟩ x0).setCell ⟨r, 1, none⟩ x1) := (h.setCell hr x0).setCell hr x1
theorem at2_alloc (w : World) (c : Int × Int) : At2 (w.alloc (.cells #[.int .i64 c.1, .int .i64 c.2] 32)) w.heap.size c := by
  unfold At2
  refine ⟨?_, ?_⟩
  · simp
  · simp
theorem at2_store {w : World} {r : Nat} {c : Int × Int} {x0 x1 : Value} (y0 : w.cell? ⟨r, 0, none⟩ = some x0) (y1 : w.cell? ⟨r, 1, none⟩ = some x1) :
    At2 ((w.setCell ⟨r, 0, none⟩ (.int .i64 c.1)).setCell ⟨r, 1, none⟩ (.int .i64 c.2)) r c := by
  have h := World.cell?_setCells_in r [.int .i64 c.1, .int .i64 c.2] 0 w (fun j hj => by
    have h5 : j = 0 ∨ j = 1 := by simp at hj; omega
    rcases h5 with h | h <;> subst h <;> simp [*])
  simp only [Nat.zero_add] at h
  exact ⟨h 0 (by simp), h 1 (by simp)⟩
theorem mk10 {w w' : World} {a0 a1 a2 a3 a4 b0 b1 b2 b3 b4 : Addr} {u0 u1 u2 u3 u4 v0 v1 v2 v3 v4 : Value} (h : Below w.heap.size w w') (q0 : w.cell? a0 = some u0) (q1 : w.cell? a1 = some u1) (q2 : w.cell? a2 = some u2) (q3 : w.cell? a3 = some u3) (q4 : w.cell? a4 = some u4)
    (r0 : w.cell? b0 = some v0) (r1 : w.cell? b1 = some v1) (r2 : w.cell? b2 = some v2) (r3 : w.cell? b3 = some v3) (r4 : w.cell? b4 = some v4) :
    Below w.heap.size w w' ∧ w'.cell? a0 = some u0 ∧ w'.cell? a1 = some u1 ∧ w'.cell? a2 = some u2 ∧ w'.cell? a3 = some u3 ∧ w'.cell? a4 = some u4 ∧ w'.cell? b0 = some v0 ∧ w'.cell? b1 = some v1 ∧ w'.cell? b2 = some v2 ∧ w'.cell? b3 = some v3 ∧ w'.cell? b4 = some v4 :=
  ⟨h, keep_cell h q0, keep_cell h q1, keep_cell h q2, keep_cell h q3, keep_cell h q4, keep_cell h r0, keep_cell h r1, keep_cell h r2, keep_cell h r3, keep_cell h r4⟩
theorem set5_other {w : World} {g k r j : Nat} {x0 x1 x2 x3 x4 : Value} (h : ¬ r = g) :
    (((((w.setCell ⟨g, k, none⟩ x0).setCell ⟨g, k + 1, none⟩ x1).setCell ⟨g, k + 2, none⟩ x2).setCell ⟨g, k + 3, none⟩ x3).setCell ⟨g, k + 4, none⟩ x4).cell? ⟨r, j, none⟩ = w.cell? ⟨r, j, none⟩ := by
  have hn : ∀ i, (⟨g, i, none⟩ : Addr) ≠ ⟨r, j, none⟩ := fun i e => h (by cases e; rfl)
  rw [World.cell?_setCell_other _ _ _ _ (hn _), World.cell?_setCell_other _ _ _ _ (hn _), World.cell?_setCell_other _ _ _ _ (hn _), World.cell?_setCell_other _ _ _ _ (hn _), World.cell?_setCell_other _ _ _ _ (hn _)]
theorem keepT {w : World} {g i r : Nat} {x u v : Value} (a1 : w.cell? ⟨r, 1, none⟩ = some u) (a2 : w.cell? ⟨r, 2, none⟩ = some v) (h : ¬ r = g) : (w.setCell ⟨g, i, none⟩ x).cell? ⟨r, 1, none⟩ = some u ∧ (w.setCell ⟨g, i, none⟩ x).cell? ⟨r, 2, none⟩ = some v := by
  have hn : ∀ i j, (⟨g, i, none⟩ : Addr) ≠ ⟨r, j, none⟩ := fun i j e => h (by cases e; rfl)
  rw [World.cell?_setCell_other _ _ _ _ (hn _ _), World.cell?_setCell_other _ _ _ _ (hn _ _)]
  exact ⟨a1, a2⟩
theorem keepTd {w : World} {g i r : Nat} {x u v : Value} (a1 : w.drew.cell? ⟨r, 1, none⟩ = some u) (a2 : w.drew.cell? ⟨r, 2, none⟩ = some v) (h : ¬ r = g) : (w.setCell ⟨g, i, none⟩ x).drew.cell? ⟨r, 1, none⟩ = some u ∧ (w.setCell ⟨g, i, none⟩ x).drew.cell? ⟨r, 2, none⟩ = some v := keepT (w := w) a1 a2 h
theorem keepTdd {w : World} {g i r : Nat} {x u v : Value} (a1 : w.drew.drew.cell? ⟨r, 1, none⟩ = some u) (a2 : w.drew.drew.cell? ⟨r, 2, none⟩ = some v) (h : ¬ r = g) : (w.setCell ⟨g, i, none⟩ x).drew.drew.cell? ⟨r, 1, none⟩ = some u ∧ (w.setCell ⟨g, i, none⟩ x).drew.drew.cell? ⟨r, 2, none⟩ = some v := keepT (w := w) a1 a2 h
theorem keepS {w : World} {base g n cap k r : Nat} {l : List En} {p : List UInt8} {b : Bool} {d : List UInt8} {c c' : Int × Int} (h : w.ownsRow base 34 5 (.slice (some ⟨g, 0, none⟩) n cap) n (l.flatMap cellsE)) (hk : k < l.length)
    (y0 : w.cell? ⟨r, 0, none⟩ = some (.int .i64 c.1)) (y1 : w.cell? ⟨r, 1, none⟩ = some (.int .i64 c.2)) (hr : ¬ r = g) (W : World)
    (hW : W = (((((w.setCell ⟨g, k * 5, none⟩ (.string ⟨⟨p⟩⟩)).setCell ⟨g, k * 5 + 1, none⟩ (.bool b)).setCell ⟨g, k * 5 + 2, none⟩ (.string ⟨⟨d⟩⟩)).setCell ⟨g, k * 5 + 3, none⟩ (.int .i64 c'.1)).setCell ⟨g, k * 5 + 4, none⟩ (.int .i64 c'.2))) :
    W.cell? ⟨g, k * 5 + 1, none⟩ = some (.bool b) ∧ W.cell? ⟨g, k * 5 + 2, none⟩ = some (.string ⟨⟨d⟩⟩) ∧ W.cell? ⟨r, 0, none⟩ = some (.int .i64 c.1) ∧ W.cell? ⟨r, 1, none⟩ = some (.int .i64 c.2) := by
  subst hW
  have h' := row_set (p, b, d, c') h hk
  obtain ⟨_, a1, a2, _⟩ := gfacts h' (e := (p, b, d, c')) (k := k) (by rw [List.getElem?_set_self hk])
  exact ⟨a1, a2, (set5_other hr).trans y0, (set5_other hr).trans y1⟩
theorem eql_clock (a b c d : Int) (w : World) : (binOp .eql 32 (.agg #[.int .i64 a, .int .i64 b]) (.agg #[.int .i64 c, .int .i64 d])).run Tryz.prog w = .ok (.bool (decide (a = c ∧ b = d))) w := by
  have h1 := Tryz.underlying32
  have h2 := Tryz.underlying3
  have h3 : (Tryz.prog.info? 3).map (·.size) = some 1 := by kernel_rfl
  cases hi : Tryz.prog.info? 3 with
  | none => rw [hi] at h3; cases h3
  | some i =>
    rw [hi] at h3
    have hs : i.size = 1 := by simpa using h3
    by_cases e1 : a = c <;> by_cases e2 : b = d <;> simp [go_sem, Sem.run_bind, run_underlying h1, run_underlying h2, hi, hs, sizeOf, typeInfo, h1, h2, e1, e2]
theorem guard32 : Tryz.prog.eqGuardType Tryz.prog.depth 32 = false := by kernel_rfl
theorem info32 : (Tryz.prog.info? 32).map (·.size) = some 2 := by kernel_rfl
theorem field_clock (a b c d e : Value) (w : World) : (Instr.field 34 (.agg #[a, b, c, d, e]) 3).run Tryz.prog w = .ok (.agg #[d, e]) w := by
  have h1 := Tryz.underlying34
  have h2 := info32
  cases hi : Tryz.prog.info? 32 with
  | none => rw [hi] at h2; cases h2
  | some i =>
    rw [hi] at h2
    have hs : i.size = 2 := by simpa using h2
    simp [Instr.field, Sem.run_bind, run_underlying h1, sizeOf, typeInfo, part, newRow, isAgg, asAgg, hi, hs]
set_option maxRecDepth 100000 in
set_option maxHeartbeats 4000000 in
theorem settle_walk (w : World) (v1 v2 : Value) (l1 l2 : List En) (p : List UInt8) (take : Bool) (n : Int) (k1 k2 : Nat) (e1 e2 : En) (c : Int × Int) (z y : Nat × Nat) (c' : Int × Int) (mE : Int)
    (H : SHyp w v1 v2 l1 l2 p n k1 k2 e1 e2 c z y c' (l1.set k1 (p, (if take then e2.2.1 else e1.2.1), (if take then e2.2.2.1 else e1.2.2.1), c')) mE)
    (hm : Calls Tryz.prog 13 #[v1, v2] w fun e w' => ∃ vm vc, e = .returned (.tuple #[vm, vc, .int .i64 0]) ∧ Below w.heap.size w w' ∧ ∀ wr, Below w'.heap.size w' wr → Calls Tryz.prog 50 #[vc, .string ⟨⟨p⟩⟩] wr fun e w2 => e = .returned (.bool true) ∧ Below wr.heap.size wr w2) :
    Calls Tryz.prog 22 #[v1, v2, .string ⟨⟨p⟩⟩, .bool take, .int .i64 n] w fun e w' => Below w.heap.size w w' ∧
      (((c'.1 = c.1 ∧ c'.2 = c.2) ∧ e = .returned (.tuple #[.slice none 0 0, .int .i64 2])) ∨
       (¬ (c'.1 = c.1 ∧ c'.2 = c.2) ∧ mE ≠ 0 ∧ e = .returned (.tuple #[.slice none 0 0, .int .i64 mE])) ∨
       (¬ (c'.1 = c.1 ∧ c'.2 = c.2) ∧ mE = 0 ∧ ∃ v, e = .returned (.tuple #[v, .int .i64 0]) ∧ w'.ownsRow w.heap.size 34 5 v l1.length ((l1.set k1 (p, (if take then e2.2.1 else e1.2.1), (if take then e2.2.2.1 else e1.2.2.1), c')).flatMap cellsE))) := by
  have hk1 : k1 < l1.length := (List.getElem?_eq_some_iff.1 H.h1).1
  have hk2 : k2 < l2.length := (List.getElem?_eq_some_iff.1 H.h2).1
  have i1 : (0 : Int) ≤ (k1 : Int) := by omega
  have i2 : (0 : Int) ≤ (k2 : Int) := by omega
  have i3 : (k1 : Int) < (l1.length : Int) := by omega
  have i4 : (k2 : Int) < (l2.length : Int) := by omega
  obtain ⟨b2, f2, cap2, rfl, hcap2, r0, r1, r2, r3, r4⟩ := row_form H.s2 H.h2
  have hfc := field_clock
  obtain ⟨qb, hqb⟩ : ∃ qb : Bool, Hid (qb = decide (c'.1 = c.1 ∧ c'.2 = c.2)) := ⟨_, rfl⟩
  have heq : ∀ w : World, (binOp .eql 32 (.agg #[.int .i64 c'.1, .int .i64 c'.2]) (.agg #[.int .i64 c.1, .int .i64 c.2])).run Tryz.prog w = .ok (.bool qb) w := fun w => by rw [eql_clock, hqb.out]
  have hgu := guard32
  go_enter Tryz.func22, Tryz.ntmps22
  go_wp2_with (first
    | (go_at_call 13; refine hm.mono ?_; rintro e w1 ⟨vm, vc, rfl, hb1, hcont⟩)
    | (go_at_call 50; refine (hcont _ (Below.refl _ _)).mono ?_; rintro e w2 ⟨rfl, hb2⟩)
    | (go_at_call 51; refine (copy_calls (H.s1.below (below_trans hb1 hb2)) (Nat.le_trans H.n1 (by decide))).mono ?_; rintro e w3 ⟨vo, rfl, hown, hb3, hnil⟩))
  have hb13 := below_trans (below_trans hb1 hb2) hb3
  have hform := slice_form hown
  obtain ⟨ao, cv, rfl, hao⟩ := hform
  obtain ⟨g, rfl⟩ := hao (by omega)
  have q0 := keep_cell hb13 r0
  have q1 := keep_cell hb13 r1
  have q2 := keep_cell hb13 r2
  have q3 := keep_cell hb13 r3
  have q4 := keep_cell hb13 r4
  refine wp_mid (fun r w' => Below w3.heap.size w3 w' ∧ w3.heap.size ≤ r ∧ r < w'.heap.size ∧ At5 w' r e2) ?F1 ?h11 ?h12
  case h11 =>
   intro Q' hQ'
   go_region_held3 (fun w' => Below w3.heap.size w3 w' ∧ w'.cell? ⟨b2, f2 + k2 * 5, none⟩ = some (.string ⟨⟨e2.1⟩⟩) ∧ w'.cell? ⟨b2, f2 + k2 * 5 + 1, none⟩ = some (.bool e2.2.1) ∧ w'.cell? ⟨b2, f2 + k2 * 5 + 2, none⟩ = some (.string ⟨⟨e2.2.2.1⟩⟩) ∧ w'.cell? ⟨b2, f2 + k2 * 5 + 3, none⟩ = some (.int .i64 e2.2.2.2.1) ∧ w'.cell? ⟨b2, f2 + k2 * 5 + 4, none⟩ = some (.int .i64 e2.2.2.2.2))
     (first | (refine mk5 ?_ q0 q1 q2 q3 q4; (try go_split_ands); first
       | with_reducible exact Below.refl _ _
       | with_reducible assumption
       | with_reducible exact (Below.refl _ _).drew
       | with_reducible exact ((Below.refl _ _).alloc (Nat.le_refl _) _).drew
       | with_reducible exact below_trans (by assumption) hb4
       | with_reducible exact below_trans (by assumption) hb5
       | (with_reducible refine Below.alloc (by assumption) ?_ _; exact Below.size (by assumption))
       | (with_reducible refine swap_alloc (by assumption) ?_; (have s4 := hb4.size); (have s5 := hb5.size); (simp only [World.size_drew, World.size_alloc] at s4 s5); omega)
       | (with_reducible refine store5 (by assumption) ?_; first | exact Nat.le_refl _ | ((have s4 := hb4.size); simp at s4; omega))
 ))
     (first
       | (go_at_call_of 27 v1; refine (H.find _ _ _ (.inl ⟨rfl, rfl⟩) (below_trans hb13 (by (try go_split_ands); assumption))).mono ?_; rintro e w4 ⟨rfl, hb4⟩
          (try (first | (have yy := fresh5 hb4; obtain ⟨y0, y1, y2, y3, y4, z0, z1, z2, z3, z4, hy⟩ := yy) | (have yy := fresh5d hb4; obtain ⟨y0, y1, y2, y3, y4, z0, z1, z2, z3, z4, hy⟩ := yy))))
       | (go_at_call 27; refine (H.find _ _ _ (.inr ⟨rfl, rfl⟩) (below_trans hb13 (by (try go_split_ands); assumption))).mono ?_; rintro e w5 ⟨rfl, hb5⟩
          (try (first
           | (have yy := fresh5 hb5; obtain ⟨y0, y1, y2, y3, y4, z0, z1, z2, z3, z4, hy⟩ := yy)
           | (have yy := keep5 hb5 hy y0 y1 y2 y3 y4 z0 z1 z2 z3 z4; obtain ⟨y0', y1', y2', y3', y4', z0', z1', z2', z3', z4', hy'⟩ := yy)))))
   · rename_i hHeld
     generalize hr : w5.heap.size = r
     have s4 := hb4.size; have s5 := hb5.size
     simp only [World.size_drew] at s4
     refine hQ'.out r _ ⟨hHeld.1, by omega, by simp; omega, hr ▸ at5_alloc _ _⟩
   · rename_i hHeld
     generalize hr : w4.heap.size = r
     have s4 := hb4.size; have s5 := hb5.size
     simp only [World.size_drew] at s4
     simp at s5
     refine hQ'.out r _ ⟨hr ▸ hHeld.1, by omega, by simp [World.setCell]; omega, at5_store (hr ▸ y0) (hr ▸ y1) (hr ▸ y2) (hr ▸ y3) (hr ▸ y4)⟩
   · rename_i hHeld
     generalize hr : w3.heap.size = r
     have s4 := hb4.size; have s5 := hb5.size
     simp at s4 s5
     refine hQ'.out r _ ⟨by rw [← hr]; exact hHeld.1, by omega, by simp [World.setCell]; omega, at5_store (hr ▸ y0') (hr ▸ y1') (hr ▸ y2') (hr ▸ y3') (hr ▸ y4')⟩
  case h12 =>
   intro r w6
   rintro ⟨hb6, hr1, hr2, t0, t1, t2, t3, t4⟩
   have hown6 := hown.kept (grown_of hb6) (apart_none _)
   obtain ⟨p0, p1, p2, p3, p4, -⟩ := gfacts hown6 H.h1
   go_wp2
   refine wp_mid (fun r' w' => Below w6.heap.size w6 w' ∧ w6.heap.size ≤ r' ∧ r' < w'.heap.size ∧ At2 w' r' c) ?F2 ?h21 ?h22
   case h21 =>
    intro Q' hQ'
    go_region_held3 (fun w' => Below w6.heap.size w6 w' ∧ w'.cell? ⟨g, k1 * 5, none⟩ = some (.string ⟨⟨e1.1⟩⟩) ∧ w'.cell? ⟨g, k1 * 5 + 1, none⟩ = some (.bool e1.2.1) ∧ w'.cell? ⟨g, k1 * 5 + 2, none⟩ = some (.string ⟨⟨e1.2.2.1⟩⟩) ∧ w'.cell? ⟨g, k1 * 5 + 3, none⟩ = some (.int .i64 e1.2.2.2.1) ∧ w'.cell? ⟨g, k1 * 5 + 4, none⟩ = some (.int .i64 e1.2.2.2.2) ∧
       w'.cell? ⟨r, 0, none⟩ = some (.string ⟨⟨e2.1⟩⟩) ∧ w'.cell? ⟨r, 1, none⟩ = some (.bool e2.2.1) ∧ w'.cell? ⟨r, 2, none⟩ = some (.string ⟨⟨e2.2.2.1⟩⟩) ∧ w'.cell? ⟨r, 3, none⟩ = some (.int .i64 e2.2.2.2.1) ∧ w'.cell? ⟨r, 4, none⟩ = some (.int .i64 e2.2.2.2.2))
     (first | (refine mk10 ?_ p0 p1 p2 p3 p4 t0 t1 t2 t3 t4; (try go_split_ands); first
       | with_reducible exact Below.refl _ _
       | with_reducible assumption
       | with_reducible exact (Below.refl _ _).drew
       | with_reducible exact ((Below.refl _ _).alloc (Nat.le_refl _) _).drew
       | with_reducible exact below_trans (by assumption) hb7
       | (with_reducible refine Below.alloc (by assumption) ?_ _; exact Below.size (by assumption))
       | (with_reducible refine swap_alloc (by assumption) ?_; (have s7 := hb7.size); (simp only [World.size_drew, World.size_alloc] at s7); omega)
       | (with_reducible refine store2 (by assumption) ?_; first | exact Nat.le_refl _ | ((have s7 := hb7.size); simp at s7; omega))
 ))
     (first
       | (go_at_call 52; refine (H.joined _).mono ?_; rintro e w7 ⟨rfl, hb7⟩
          (try (first | (have yy := fresh2 hb7; obtain ⟨y0, y1, z0, z1, hy⟩ := yy) | (have yy := fresh2d hb7; obtain ⟨y0, y1, z0, z1, hy⟩ := yy)))))
    · rename_i hHeld
      generalize hr : w7.heap.size = r'
      have s7 := hb7.size
      simp only [World.size_drew] at s7
      refine hQ'.out r' _ ⟨hHeld.1, by omega, by simp; omega, hr ▸ at2_alloc _ _⟩
    · rename_i hHeld
      generalize hr : w6.heap.size = r'
      have s7 := hb7.size
      simp at s7
      refine hQ'.out r' _ ⟨by rw [← hr]; exact hHeld.1, by omega, by simp [World.setCell]; omega, at2_store (hr ▸ y0) (hr ▸ y1)⟩
   case h22 =>
    intro r' w8
    rintro ⟨hb8, hr3, hr4, u0, u1⟩
    have hown8 := hown6.kept (grown_of hb8) (apart_none _)
    have hg2 : w2.heap.size ≤ g := (hown.lt g rfl).1
    have hg6 : g < w3.heap.size := (hown.lt g rfl).2
    obtain ⟨p0', p1', p2', p3', p4', -⟩ := gfacts hown8 H.h1
    have hgr : ¬ g = r' := by have := hb6.size; omega
    have hgr2 : ¬ r' = g := by have := hb6.size; omega
    have hgr3 : ¬ r = g := by have := hb6.size; omega
    go_wp2
    refine wp_mid (fun _ w' => w'.ownsRow w2.heap.size 34 5 (.slice (some ⟨g, 0, none⟩) l1.length cv) l1.length ((l1.set k1 (p, e1.2.1, e1.2.2.1, c')).flatMap cellsE) ∧ Below w2.heap.size w2 w' ∧ At2 w' r' c ∧ At5 w' r e2) ?F3 ?h31 ?h32
    case h31 =>
     intro Q' hQ'
     go_region_held3 (fun w' => w'.cell? ⟨g, k1 * 5 + 1, none⟩ = some (.bool e1.2.1) ∧ w'.cell? ⟨g, k1 * 5 + 2, none⟩ = some (.string ⟨⟨e1.2.2.1⟩⟩) ∧ w'.cell? ⟨r', 0, none⟩ = some (.int .i64 c.1) ∧ w'.cell? ⟨r', 1, none⟩ = some (.int .i64 c.2))
      (first
       | ((try go_split_ands); with_reducible exact keepS hown11 hk1 (by assumption) (by assumption) hgr2 _ rfl)
       | ((try go_split_ands); refine ⟨?_, ?_, ?_, ?_⟩ <;> first
        | with_reducible assumption
        | (with_reducible apply keep_cell hb9; with_reducible assumption)
        | (with_reducible apply keep_cell hb10; with_reducible assumption)
        | (with_reducible apply keep_cell hb11; with_reducible assumption)
        | (simp [*]; done)
  ))
      (first
        | (go_at_call 55; refine (H.of _).mono ?_; rintro e w9 ⟨rfl, hb9⟩)
        | (go_at_call 54; refine (H.tick _).mono ?_; rintro e w10 ⟨rfl, hb10⟩)
        | (go_at_call 53; refine (H.pair _).mono ?_; rintro e w11 ⟨rfl, hb11⟩
           have hb811 := below_trans (below_trans (below_trans (Below.refl _ w8).drew hb9) hb10) hb11
           have hown11 := hown8.kept (grown_of hb811) (apart_none _)
           obtain ⟨x0, x1, x2, x3, x4, fz0, fz1, fz2, fz3, fz4⟩ := gfacts hown11 H.h1))
     rename_i hHeld
     obtain ⟨zz, -⟩ : ∃ m : Nat, m = m := ⟨0, rfl⟩
     refine hQ'.out zz _ ⟨row_set (p, e1.2.1, e1.2.2.1, c') (hown11) hk1, ?_, ⟨hHeld.2.2.1, hHeld.2.2.2⟩, ?_⟩
     · have hb211 := below_trans hb3 (below_trans hb6 (below_trans hb8 hb811))
       exact ((((hb211.setCell hg2 _).setCell hg2 _).setCell hg2 _).setCell hg2 _).setCell hg2 _
     · have hat : At5 w11 r e2 := ⟨keep_cell hb811 (keep_cell hb8 t0), keep_cell hb811 (keep_cell hb8 t1), keep_cell hb811 (keep_cell hb8 t2), keep_cell hb811 (keep_cell hb8 t3), keep_cell hb811 (keep_cell hb8 t4)⟩
       exact ⟨(set5_other hgr3).trans hat.1, (set5_other hgr3).trans hat.2.1, (set5_other hgr3).trans hat.2.2.1, (set5_other hgr3).trans hat.2.2.2.1, (set5_other hgr3).trans hat.2.2.2.2⟩
    case h32 =>
     intro _ w12
     rintro ⟨hown12, hb12, ⟨u0, u1⟩, t0, t1, t2, t3, t4⟩
     have hbw := below_trans (below_trans hb1 hb2) (hb12)
     have hk3 : (l1.set k1 (p, e1.2.1, e1.2.2.1, c'))[k1]? = some (p, e1.2.1, e1.2.2.1, c') := by rw [List.getElem?_set_self hk1]
     obtain ⟨x0, x1, x2, x3, x4, fz0, fz1, fz2, fz3, fz4⟩ := gfacts hown12 hk3
     dsimp only at x0 x1 x2 x3 x4
     go_wp2
     refine wp_seal (fun Q' hQ' => ?_)
     go_region_held3 (fun w' => w'.cell? ⟨g, k1 * 5 + 3, none⟩ = some (.int .i64 c'.1) ∧ w'.cell? ⟨g, k1 * 5 + 4, none⟩ = some (.int .i64 c'.2) ∧ w'.cell? ⟨r', 0, none⟩ = some (.int .i64 c.1) ∧ w'.cell? ⟨r', 1, none⟩ = some (.int .i64 c.2))
      (first
       | ((try go_split_ands); refine ⟨?_, ?_, ?_, ?_⟩ <;> first | with_reducible assumption | (simp only [World.cell?_drew]; assumption)))
      (fail)
     refine hQ'.out _ _ _ ?_
     clear hQ' Q'
     have hgr4 : ¬ g = r := fun e => hgr3 e.symm
     cases qb with
     | true =>
       have hcc : c'.1 = c.1 ∧ c'.2 = c.2 := of_decide_eq_true hqb.out.symm
       go_wp2
       all_goals go_ret2
       all_goals exact ⟨hbw.drew, rfl⟩
     | false =>
      have hcc : Hid (¬ (c'.1 = c.1 ∧ c'.2 = c.2)) := of_decide_eq_false hqb.out.symm
      cases take with
      | false =>
       have hmay := H.may
       simp only [Bool.false_eq_true, if_false] at hmay
       have hsl : Sl w12.drew _ (l1.set k1 (p, e1.2.1, e1.2.2.1, c')) := sl_of_owns (l := l1.set k1 (p, e1.2.1, e1.2.2.1, c')) (by rw [List.length_set]; exact hown12.drew)
       go_wp2_with (first
         | (go_at_call 38; refine (hmay _ _ hsl).mono ?_; rintro e wm ⟨rfl, hbm⟩))
       · go_ret2
         exact ⟨below_trans hbw.drew hbm, .inr (.inl ⟨fun a b => hcc.out ⟨a, b⟩, by simpa using (by assumption : (mE != 0) = true), rfl⟩)⟩
       · go_ret2
         exact ⟨below_trans hbw.drew hbm, .inr (.inr ⟨fun a b => hcc.out ⟨a, b⟩, by simpa using (by assumption : (mE != 0) = false), _, rfl, owns_base (hown12.drew.kept (grown_of hbm) (apart_none _)) (below_trans hb1 hb2).size⟩)⟩
      | true =>
       have hmay := H.may
       simp only [if_true] at hmay
       go_wp2
       refine wp_mid (fun _ w' => w'.ownsRow w2.heap.size 34 5 (.slice (some ⟨g, 0, none⟩) l1.length cv) l1.length ((l1.set k1 (p, e2.2.1, e2.2.2.1, c')).flatMap cellsE) ∧ Below w2.heap.size w2 w') ?F4 ?h41 ?h42
       case h41 =>
        intro Q' hQ'
        go_region_held3 (fun w' => w'.cell? ⟨r, 1, none⟩ = some (.bool e2.2.1) ∧ w'.cell? ⟨r, 2, none⟩ = some (.string ⟨⟨e2.2.2.1⟩⟩))
         (first
          | ((try go_split_ands); with_reducible exact keepTdd (by assumption) (by assumption) hgr3)
          | ((try go_split_ands); with_reducible exact keepTd (by assumption) (by assumption) hgr3)
          | ((try go_split_ands); with_reducible exact keepT (by assumption) (by assumption) hgr3)
          | ((try go_split_ands); refine ⟨?_, ?_⟩ <;> first | with_reducible assumption | (simp only [World.cell?_drew]; assumption)))
         (fail)
        all_goals obtain ⟨zz, -⟩ : ∃ m : Nat, m = m := ⟨0, rfl⟩
        · refine hQ'.out zz _ ⟨?_, ?_⟩
          · have h2 := row_two e2.2.1 e2.2.2.1 hown12.drew.drew hk3
            rw [List.set_set] at h2
            exact h2
          · exact ((hb12.setCell (p := ⟨g, _, none⟩) hg2 _).setCell (p := ⟨g, _, none⟩) hg2 _).drew.drew
       case h42 =>
        intro _ w13
        rintro ⟨hown13, hb13'⟩
        have hbw3 := below_trans (below_trans hb1 hb2) hb13'
        have hsl : Sl w13 _ (l1.set k1 (p, e2.2.1, e2.2.2.1, c')) := sl_of_owns (l := l1.set k1 (p, e2.2.1, e2.2.2.1, c')) (by rw [List.length_set]; exact hown13)
        go_wp2_with (first
          | (go_at_call 38; refine (hmay _ _ hsl).mono ?_; rintro e wm ⟨rfl, hbm⟩))
        · go_ret2
          exact ⟨below_trans hbw3 hbm, .inr (.inl ⟨fun a b => hcc.out ⟨a, b⟩, by simpa using (by assumption : (mE != 0) = true), rfl⟩)⟩
        · go_ret2
          exact ⟨below_trans hbw3 hbm, .inr (.inr ⟨fun a b => hcc.out ⟨a, b⟩, by simpa using (by assumption : (mE != 0) = false), _, rfl, owns_base (hown13.kept (grown_of hbm) (apart_none _)) (below_trans hb1 hb2).size⟩)⟩
end Go.Proofs.V.R10
namespace Go.Proofs.V.R10
open Go Go.Proofs Go.RowKit Go.Maps
set_option linter.unusedVariables false
set_option linter.unusedSimpArgs false
theorem settle_err (w : World) (v1 v2 : Value) (p : List UInt8) (take : Bool) (n : Int) (err : Int) (he : err ≠ 0)
    (hm : Calls Tryz.prog 13 #[v1, v2] w fun e w' => ∃ vm vc, e = .returned (.tuple #[vm, vc, .int .i64 err]) ∧ Below w.heap.size w w') :
    Calls Tryz.prog 22 #[v1, v2, .string ⟨⟨p⟩⟩, .bool take, .int .i64 n] w fun e w' => e = .returned (.tuple #[.slice none 0 0, .int .i64 err]) ∧ Below w.heap.size w w' := by
  have he' : (err != 0) = true := by simpa using he
  go_enter Tryz.func22, Tryz.ntmps22
  go_wp2_with (first
    | (go_at_call 13; refine hm.mono ?_; rintro e w1 ⟨vm, vc, rfl, hb1⟩))
  all_goals go_ret2
  all_goals exact ⟨rfl, hb1⟩
theorem settle_none (w : World) (v1 v2 : Value) (p : List UInt8) (take : Bool) (n : Int)
    (hm : Calls Tryz.prog 13 #[v1, v2] w fun e w' => ∃ vm vc, e = .returned (.tuple #[vm, vc, .int .i64 0]) ∧ Below w.heap.size w w' ∧ ∀ wr, Below w'.heap.size w' wr → Calls Tryz.prog 50 #[vc, .string ⟨⟨p⟩⟩] wr fun e w2 => e = .returned (.bool false) ∧ Below wr.heap.size wr w2) :
    Calls Tryz.prog 22 #[v1, v2, .string ⟨⟨p⟩⟩, .bool take, .int .i64 n] w fun e w' => e = .returned (.tuple #[.slice none 0 0, .int .i64 3]) ∧ Below w.heap.size w w' := by
  go_enter Tryz.func22, Tryz.ntmps22
  go_wp2_with (first
    | (go_at_call 13; refine hm.mono ?_; rintro e w1 ⟨vm, vc, rfl, hb1, hcont⟩)
    | (go_at_call 50; refine (hcont _ (Below.refl _ _)).mono ?_; rintro e w2 ⟨rfl, hb2⟩))
  all_goals go_ret2
  all_goals exact ⟨rfl, below_trans hb1 hb2⟩
end Go.Proofs.V.R10
namespace Go.Proofs.W.Q10
open Go Go.Proofs Go.Proofs.V Go.Proofs.V.U10 Go.Proofs.V.R10 Go.Proofs.W Go.RowKit
set_option linter.unusedVariables false
set_option linter.unusedSimpArgs false
set_option maxRecDepth 100000
def cellsOf (W : World) : Addr → Option Value := fun a => W.cell? a
theorem mem_cellsOf (W : World) : Mem (cellsOf W) W := fun ad v h => h
noncomputable abbrev c0 : Cfg := cfgZ (fun _ => none)
theorem ext0 : ∀ g s xs r, c0.ext g = some s → s xs = some r → CSound c0.P g xs [] r [] := ext_ok (fun g s xs r h => by cases h)
theorem ev_of {cfg : Cfg} {g : Nat} {xs : List AV} {rv : AV} (he : cfg.ext g = none) (h : callQ cfg (evK cfg) g xs = some rv) : ∃ H', evK cfg g xs [] = some (rv, H') := by
  unfold callQ at h
  rw [he] at h
  cases hk : evK cfg g xs [] with
  | none => rw [hk] at h; cases h
  | some p =>
    rw [hk] at h
    obtain ⟨r, H'⟩ := p
    dsimp only at h
    split at h
    · cases h; exact ⟨H', rfl⟩
    · cases h
theorem calls_val {n : Nat} {a rs : List SV} {F : Tl (dynL a) → Option (Tl (dynL rs))} (hs : FSound c0 ⟨⟨n, a, rs⟩, F⟩) {x : Tl (dynL a)} {y : Tl (dynL rs)} (hF : F x = some y) {xs : List AV} (ha : ArgR a x xs)
    {fn : Func} {c : Code} (he : c0.ext n = none) (hf : Tryz.prog.funcs[n]? = some fn) (hb : fn.body = some c) (hname : (fn.name == "runtime.NumGoroutine") = false)
    {W : World} {vs : List Value} (hni : ∀ x ∈ xs, NoId x) (hl : vs.length = xs.length) (hR : ∀ (j : Nat) (x : AV) (v : Value), xs[j]? = some x → vs[j]? = some v → R1 (cellsOf W) noE x v)
    {u : Value} (hu : ∀ rv, ResR rs y rv → ∀ S E v, R1 S E rv v → v = u) : Calls Tryz.prog n vs.toArray W fun e w' => e = .returned u ∧ Below W.heap.size W w' := by
  obtain ⟨rv, h1, h2⟩ := hs x y hF xs ha
  obtain ⟨H', h⟩ := ev_of he h1
  have hp : HPre W (cellsOf W) noE [] := ⟨mem_cellsOf W, fun l b hb => (by cases hb), fun l cs hl => (by simp at hl), fun l l' b hb => (by cases hb)⟩
  have hc := evK_sound mixed ext0 h W (cellsOf W) noE vs hp hni hl hR
  have hcall : (callFunc n vs.toArray).run Tryz.prog W = .ok (.enter n vs.toArray) W := by
    simp [callFunc, Sem.run_bind, hf, hb]
    intro hn
    simp [hn] at hname
  rcases hc with ⟨v, w', h1, _⟩ | ⟨_, h3⟩
  · rw [show c0.P = Tryz.prog from rfl, hcall] at h1
    cases h1
  · refine callsIn_wide.1 ((h3 0).mono fun e w' he => ?_)
    obtain ⟨v, rfl, S', E', φ, hpost⟩ := he
    exact ⟨by rw [hu rv h2 _ _ _ hpost.rv], bel_below hpost.bel⟩
theorem cells_sl {w : World} {v : Value} {l : List V.R10.En} (h : Sl w v l) : ∃ nl, (nl = true → l = []) ∧ (nl = true ↔ v = .slice none 0 0) ∧ R1 (cellsOf w) noE (.slice (l.map (encR reE)) nl .no) v := by
  rcases h with ⟨rfl, rfl⟩ | ⟨b, off, cap, rfl, hc, h⟩
  · exact ⟨true, fun _ => rfl, by simp, .nil _⟩
  · refine ⟨false, fun e => (by cases e), (by simp), ?_⟩
    have key : ∀ i j x, cellAt (l.map (encR reE)) i j = some x → ∃ e, l[i]? = some e ∧ (encR reE e)[j]? = some x := by
      intro i j x hx
      unfold cellAt at hx
      rw [List.getElem?_map] at hx
      cases he : l[i]? with
      | none => rw [he] at hx; cases hx
      | some e => rw [he] at hx; exact ⟨e, rfl, hx⟩
    have cell : ∀ i j x, cellAt (l.map (encR reE)) i j = some x → ∃ u, x = .at u ∧ AV.plain x = true ∧ w.cell? ⟨b, off + (i * 5 + j), none⟩ = some u := by
      intro i j x hx
      obtain ⟨e, he, hj⟩ := key i j x hx
      have h5 : j = 0 ∨ j = 1 ∨ j = 2 ∨ j = 3 ∨ j = 4 := by
        have := (List.getElem?_eq_some_iff.1 hj).1
        have h5 : (encR reE e).length = 5 := rfl
        omega
      rw [← Nat.add_assoc]
      rcases h5 with k | k | k | k | k <;> subst k
      · cases hj; exact ⟨_, rfl, rfl, h.c0 i e he⟩
      · cases hj; exact ⟨_, rfl, rfl, h.c1 i e he⟩
      · cases hj; exact ⟨_, rfl, rfl, h.c2 i e he⟩
      · cases hj; exact ⟨_, rfl, rfl, h.c3 i e he⟩
      · cases hj; exact ⟨_, rfl, rfl, h.c4 i e he⟩
    have := R1.slice (S := cellsOf w) (E := noE) (l.map (encR reE)) .no b off cap 5 (fun i j => ((w.cell? ⟨b, off + (i * 5 + j), none⟩).getD default)) (by rw [List.length_map]; exact hc)
      (fun r hr => by obtain ⟨e, _, rfl⟩ := List.mem_map.1 hr; rfl) (fun e => by cases e) (fun i j x hx => by obtain ⟨u, _, h, _⟩ := cell i j x hx; exact h)
      (fun i j x hx => by obtain ⟨u, _, _, hu⟩ := cell i j x hx; show w.cell? _ = _; rw [hu]; rfl)
      (fun i j x hx => by obtain ⟨u, rfl, _, hu⟩ := cell i j x hx; rw [hu]; exact .at _)
    rwa [List.length_map] at this
theorem noId_sl (rows : List (List AV)) (nl : Bool) : NoId (.slice rows nl .no) := by
  rintro n ⟨y, hy, rows', nl', rfl⟩
  simp [parts] at hy
theorem noId_at (v : Value) : NoId (.at v) := by
  rintro n ⟨y, hy, rows', nl', rfl⟩
  simp [parts] at hy
theorem rows_enc (r : RT) (hf : flatRT r = true) : ∀ l : List (Tr r), All2 (rowR r) l (l.map (encR r))
  | [] => trivial
  | x :: l => ⟨encR_row r x hf, rows_enc r hf l⟩
theorem sl_args {l : List (Tr reE)} {nl : Bool} (h : nl = true → l = []) : WR Ono g0 (cellW (.sl reE) l) (.slice (l.map (encR reE)) nl .no) := .sl _ _ _ _ _ _ ⟨rows_enc reE rfl l, fun e => by rw [h e]; rfl⟩ rfl
theorem res_bool {b : Bool} {rv : AV} (h : ResR [.c .bool] b rv) : ∀ S E v, R1 S E rv v → v = .bool b := by
  obtain ⟨ws, vs, h1, rfl, h2⟩ := h
  have h1' : ws = [WV.bool false b] := by
    have : some ([WV.bool false b], ([] : List WV)) = some (ws, []) := h1
    cases this; rfl
  subst h1'
  rcases vs with _ | ⟨v, _ | ⟨_, _⟩⟩ <;> first | exact h2.elim | exact h2.2.elim | skip
  have := h2.1.1
  cases this
  intro S E u hu
  cases hu; rfl
theorem res_int {b : Int} {rv : AV} (h : ResR [.c (.int .i64)] b rv) : ∀ S E v, R1 S E rv v → v = .int .i64 b := by
  obtain ⟨ws, vs, h1, rfl, h2⟩ := h
  have h1' : ws = [WV.int .i64 false b] := by
    have : some ([WV.int .i64 false b], ([] : List WV)) = some (ws, []) := h1
    cases this; rfl
  subst h1'
  rcases vs with _ | ⟨v, _ | ⟨_, _⟩⟩ <;> first | exact h2.elim | exact h2.2.elim | skip
  have := h2.1.1
  cases this
  intro S E u hu
  cases hu; rfl
theorem right_calls {v : Value} {l : List V.R10.En} {r : Bool} {w : World} (hs : Sl w v l) (hr : Q9.scan_Right l = some r) : Calls Tryz.prog 25 #[v] w fun e w' => e = .returned (.bool r) ∧ Below w.heap.size w w' := by
  obtain ⟨nl, h1, _, h2⟩ := cells_sl hs
  refine calls_val (vs := [v]) (s_scan_Right (z := fun _ => none)) (x := l) hr (xs := [.slice (l.map (encR reE)) nl .no]) ⟨[cellW (.sl reE) l], rfl, sl_args h1, trivial⟩ (by kernel_rfl) Tryz.func25 rfl (by kernel_rfl) (fun x hx => ?_) rfl (fun j x v hx hv => ?_) (fun rv h => res_bool h)
  · simp at hx; subst hx; exact noId_sl _ _
  · match j with
    | 0 => cases hx; cases hv; exact h2
    | j + 1 => simp at hx
theorem may_calls {v : Value} {l : List V.R10.En} {r : Int} {w : World} (hs : Sl w v l) (hr : recon_may l = some r) : Calls Tryz.prog 38 #[v] w fun e w' => e = .returned (.int .i64 r) ∧ Below w.heap.size w w' := by
  obtain ⟨nl, h1, _, h2⟩ := cells_sl hs
  refine calls_val (vs := [v]) (s_recon_may (z := fun _ => none)) (x := l) hr (xs := [.slice (l.map (encR reE)) nl .no]) ⟨[cellW (.sl reE) l], rfl, sl_args h1, trivial⟩ (by kernel_rfl) Tryz.func38 rfl (by kernel_rfl) (fun x hx => ?_) rfl (fun j x v hx hv => ?_) (fun rv h => res_int h)
  · simp at hx; subst hx; exact noId_sl _ _
  · match j with
    | 0 => cases hx; cases hv; exact h2
    | j + 1 => simp at hx
/-- An entry as a value of its own. -/
def aggE (e : V.R10.En) : AV := .agg [.at (.string ⟨⟨e.1⟩⟩), .at (.bool e.2.1), .at (.string ⟨⟨e.2.2.1⟩⟩), .at (.int .i64 e.2.2.2.1), .at (.int .i64 e.2.2.2.2)]
def wvE (e : V.R10.En) : WV := .agg [.str false e.1, .bool false e.2.1, .str false e.2.2.1, .int .i64 false e.2.2.2.1, .int .i64 false e.2.2.2.2]
theorem wr_E (e : V.R10.En) : WR Ono g0 (wvE e) (aggE e) := wr_agg ⟨.str _ _, .bool _ _, .str _ _, .int _ _ _, .int _ _ _, trivial⟩
theorem r1_E (S : Addr → Option Value) (E : Nat → Option Nat) (e : V.R10.En) : R1 S E (aggE e) (valE e) := by
  refine R1.agg (S := S) (E := E) [.at (.string ⟨⟨e.1⟩⟩), .at (.bool e.2.1), .at (.string ⟨⟨e.2.2.1⟩⟩), .at (.int .i64 e.2.2.2.1), .at (.int .i64 e.2.2.2.2)] [.string ⟨⟨e.1⟩⟩, .bool e.2.1, .string ⟨⟨e.2.2.1⟩⟩, .int .i64 e.2.2.2.1, .int .i64 e.2.2.2.2] rfl (fun x hx => ?_) (fun j x v hx hv => ?_)
  · simp at hx; rcases hx with rfl | rfl | rfl | rfl | rfl <;> rfl
  · match j with
    | 0 => cases hx; cases hv; exact .at _
    | 1 => cases hx; cases hv; exact .at _
    | 2 => cases hx; cases hv; exact .at _
    | 3 => cases hx; cases hv; exact .at _
    | 4 => cases hx; cases hv; exact .at _
    | j + 5 => simp at hx
theorem r1_E_inv {S : Addr → Option Value} {E : Nat → Option Nat} {e : V.R10.En} {v : Value} (h : R1 S E (aggE e) v) : v = valE e := by
  exact val_R1 (u := valE e) rfl h
theorem noId_E (e : V.R10.En) : NoId (aggE e) := by
  rintro n ⟨y, hy, rows', nl', rfl⟩
  simp [aggE, parts] at hy
theorem wr_E_inv {e : V.R10.En} {a : AV} (h : WR Ono g0 (wvE e) a) : a = aggE e := by
  unfold wvE at h
  cases h with
  | agg _ xs hl h =>
    rcases xs with _ | ⟨a0, _ | ⟨a1, _ | ⟨a2, _ | ⟨a3, _ | ⟨a4, _ | ⟨a5, xs⟩⟩⟩⟩⟩⟩ <;> first | (simp at hl; done) | skip
    have h0 := h 0 _ _ rfl rfl
    have h1 := h 1 _ _ rfl rfl
    have h2 := h 2 _ _ rfl rfl
    have h3 := h 3 _ _ rfl rfl
    have h4 := h 4 _ _ rfl rfl
    cases h0; cases h1; cases h2; cases h3; cases h4
    rfl
abbrev agE : SV := .agg [.c .str, .c .bool, .c .str, .c (.int .i64), .c (.int .i64)]
theorem args_EE (a b : V.R10.En) : ArgR [agE, agE] (a.1, (a.2.1, (a.2.2.1, (a.2.2.2.1, (a.2.2.2.2, (b.1, (b.2.1, (b.2.2.1, (b.2.2.2.1, b.2.2.2.2))))))))) [aggE a, aggE b] := ⟨[wvE a, wvE b], rfl, wr_E a, wr_E b, trivial⟩
theorem come_calls {a b : V.R10.En} {y : (List UInt8) × (Bool × ((List UInt8) × (Int × (Int × Bool))))} {w : World} (hr : recon_come (a.1, (a.2.1, (a.2.2.1, (a.2.2.2.1, (a.2.2.2.2, (b.1, (b.2.1, (b.2.2.1, (b.2.2.2.1, b.2.2.2.2))))))))) = some y) :
    Calls Tryz.prog 35 #[valE a, valE b] w fun e w' => e = .returned (.tuple #[valE (y.1, (y.2.1, (y.2.2.1, (y.2.2.2.1, y.2.2.2.2.1)))), .bool y.2.2.2.2.2]) ∧ Below w.heap.size w w' := by
  refine calls_val (vs := [valE a, valE b]) (s_recon_come (z := fun _ => none)) hr (args_EE a b) (by kernel_rfl) Tryz.func35 rfl (by kernel_rfl) (fun x hx => ?_) rfl (fun j x v hx hv => ?_) (fun rv h => ?_)
  · simp at hx; rcases hx with rfl | rfl <;> exact noId_E _
  · match j with
    | 0 => cases hx; cases hv; exact r1_E _ _ _
    | 1 => cases hx; cases hv; exact r1_E _ _ _
    | j + 2 => simp at hx
  · obtain ⟨ws, vs, h1, rfl, h2⟩ := h
    obtain ⟨y1, y2, y3, y4, y5, y6⟩ := y
    have h1' : ws = [wvE (y1, (y2, (y3, (y4, y5)))), WV.bool false y6] := by
      have : some ([wvE (y1, (y2, (y3, (y4, y5)))), WV.bool false y6], ([] : List WV)) = some (ws, []) := h1
      cases this; rfl
    subst h1'
    rcases vs with _ | ⟨v, _ | ⟨v', _ | ⟨_, _⟩⟩⟩ <;> first | exact h2.elim | exact h2.2.elim | exact h2.2.2.elim | skip
    have e1 := wr_E_inv h2.1.1
    have e2 := h2.2.1.1
    cases e2
    subst e1
    intro S E u hu
    have hu : R1 S E (.tup [aggE (y1, (y2, (y3, (y4, y5)))), BO y6]) u := hu
    cases hu with
    | tup _ us hl h =>
      rcases us with _ | ⟨u1, _ | ⟨u2, _ | ⟨_, _⟩⟩⟩ <;> first | (simp at hl; done) | skip
      have k1 := r1_E_inv (h 0 _ _ rfl rfl)
      have k2 := h 1 _ _ rfl rfl
      cases k2
      subst k1
      rfl
theorem joined_calls {a b : V.R10.En} {y : V.R10.En} {w : World} (hr : recon_joined (a.1, (a.2.1, (a.2.2.1, (a.2.2.2.1, (a.2.2.2.2, (b.1, (b.2.1, (b.2.2.1, (b.2.2.2.1, b.2.2.2.2))))))))) = some y) :
    Calls Tryz.prog 52 #[valE a, valE b] w fun e w' => e = .returned (valE y) ∧ Below w.heap.size w w' := by
  refine calls_val (vs := [valE a, valE b]) (s_recon_joined (z := fun _ => none)) hr (args_EE a b) (by kernel_rfl) Tryz.func52 rfl (by kernel_rfl) (fun x hx => ?_) rfl (fun j x v hx hv => ?_) (fun rv h => ?_)
  · simp at hx; rcases hx with rfl | rfl <;> exact noId_E _
  · match j with
    | 0 => cases hx; cases hv; exact r1_E _ _ _
    | 1 => cases hx; cases hv; exact r1_E _ _ _
    | j + 2 => simp at hx
  · obtain ⟨ws, vs, h1, rfl, h2⟩ := h
    have h1' : ws = [wvE y] := by
      have : some ([wvE y], ([] : List WV)) = some (ws, []) := h1
      cases this; rfl
    subst h1'
    rcases vs with _ | ⟨v, _ | ⟨_, _⟩⟩ <;> first | exact h2.elim | exact h2.2.elim | skip
    have e1 := wr_E_inv h2.1.1
    subst e1
    intro S E u hu
    exact r1_E_inv hu
end Go.Proofs.W.Q10
namespace Go.Proofs.W.Q10
open Go Go.Proofs Go.Proofs.V Go.Proofs.V.U10 Go.Proofs.V.R10 Go.Proofs.W Go.RowKit
set_option linter.unusedVariables false
set_option linter.unusedSimpArgs false
set_option maxRecDepth 100000
/-- Cells that came into being. -/
def newCells (w w' : World) : Addr → Option Value := fun ad => if ad.block < w.heap.size then none else w'.cell? ad
/-- A function that was walked, as an outside function: its result's new cells alone are told. -/
theorem csound_walk {g : Nat} {xs : List AV} {rv : AV} {fn : Func} {c : Code} (hf : Tryz.prog.funcs[g]? = some fn) (hb : fn.body = some c) (hname : (fn.name == "runtime.NumGoroutine") = false)
    (hno : ∀ x ∈ parts rv, ∀ rows nl o, x = .slice rows nl o → o = .no)
    (H : ∀ (w : World) (E : Nat → Option Nat) (vs : List Value), vs.length = xs.length → (∀ (j : Nat) (x : AV) (v : Value), xs[j]? = some x → vs[j]? = some v → R1 (cellsOf w) E x v) →
      Calls Tryz.prog g vs.toArray w fun e w' => ∃ v, e = .returned v ∧ Below w.heap.size w w' ∧ R1 (newCells w w') E rv v) : CSound Tryz.prog g xs [] rv [] := by
  intro w S E vs hp hni hl hR
  have hcall : (callFunc g vs.toArray).run Tryz.prog w = .ok (.enter g vs.toArray) w := by
    simp [callFunc, Sem.run_bind, hf, hb]
    intro hn
    simp [hn] at hname
  refine .inr ⟨hcall, fun n => callsIn_wide.2 ((H w E vs hl fun j x v hx hv => (hR j x v hx hv).mono (fun a u h => hp.mem a u h) (fun l b h => h)).mono fun e w' => ?_)⟩
  rintro ⟨v, rfl, hbel, hr⟩
  refine ⟨v, rfl, fun ad => if ad.block < w.heap.size then S ad else w'.cell? ad, E, fun _ => ⟨0, 0, 0, 0⟩, ?_⟩
  have hlt : ∀ ad u, S ad = some u → ad.block < w.heap.size := fun ad u h => World.block_lt_of_cell? w ad (hp.mem ad u h)
  have hfr : ∀ (j : Nat) rows nl, (parts rv)[j]? ≠ some (.slice rows nl .fresh) := fun j rows nl h => by
    have := hno _ (List.mem_of_getElem? h) rows nl .fresh rfl
    cases this
  exact
    { bel := ⟨hbel.os, hbel.tape, hbel.output, hbel.size, fun k hk _ => hbel.block k hk⟩
      sS := fun ad u h => by rw [if_pos (hlt ad u h)]; exact h
      sN := fun ad h hb => by rw [if_pos hb]; exact h
      mem := fun ad u h => by
        dsimp only at h
        split at h
        · rename_i hb
          exact (hbel.cell hb).trans (hp.mem ad u h)
        · exact h
      eS := fun l b h => h
      eN := fun l b h0 hb => by rw [h0] at hb; cases hb
      eH := hp.eH
      heap := fun l cs hl => by simp at hl
      inj := hp.inj
      rv := hr.mono (fun ad u h => by
        unfold newCells at h
        split at h
        · cases h
        · rename_i hb
          rw [if_neg hb]; exact h) (fun l b h => h)
      nid := by
        rintro n ⟨y, hy, rows, nl, rfl⟩
        have := hno _ hy rows nl (.id n) rfl
        cases this
      fresh := fun j u rows nl hx => absurd hx (hfr j rows nl)
      apart := fun j j' rows nl rows' nl' hx => absurd hx (hfr j rows nl) }
/-- An archive's value, read. -/
theorem sl_of_R1 {w : World} {E : Nat → Option Nat} {l : List V.R10.En} {rows : List (List AV)} {nl : Bool} {o : V.Own} {v : Value} (h : R1 (cellsOf w) E (.slice rows nl o) v) (hd : decL reE rows = some l) : Sl w v l := by
  cases h with
  | nil => 
    have : some ([] : List V.R10.En) = some l := hd
    cases this
    exact .inl ⟨rfl, rfl⟩
  | slice rows own b off cap sz val hlen hsz hfull hpl hS hR =>
    have hall : ∀ (rows : List (List AV)) (l : List V.R10.En), decL reE rows = some l → rows = l.map (encR reE) := by
      intro rows
      induction rows with
      | nil => intro l h; cases h; rfl
      | cons row rows ih =>
        intro l h
        simp only [decL, Option.bind_eq_some_iff, Option.map_eq_some_iff] at h
        obtain ⟨x, hx, y, hy, rfl⟩ := h
        rw [ih y hy, encR_R reE x row rfl (dec_R reE row x rfl hx)]
        rfl
    have hrows := hall rows l hd
    subst hrows
    refine .inr ⟨b, off, cap, by rw [List.length_map], by rw [List.length_map] at hlen; exact hlen, ?_⟩
    have cell : ∀ (i : Nat) (e : V.R10.En), l[i]? = some e → ∀ j u, (encR reE e)[j]? = some (.at u) → w.cell? ⟨b, off + i * 5 + j, none⟩ = some u := by
      intro i e he j u hj
      have hc : cellAt (l.map (encR reE)) i j = some (.at u) := by
        unfold cellAt
        rw [List.getElem?_map, he]
        exact hj
      have h5 : sz = 5 := (hsz (encR reE e) (List.mem_map.2 ⟨e, List.mem_of_getElem? he, rfl⟩)).symm
      have h1 := hS i j _ hc
      have h2 := hR i j _ hc
      have h3 : val i j = u := by
        generalize val i j = q at h2
        cases h2; rfl
      rw [h3, h5, ← Nat.add_assoc] at h1
      exact h1
    exact ⟨fun i e he => by simpa using cell i e he 0 _ rfl, fun i e he => cell i e he 1 _ rfl, fun i e he => cell i e he 2 _ rfl, fun i e he => cell i e he 3 _ rfl, fun i e he => cell i e he 4 _ rfl⟩
/-- Rows of plain cells that lie in a new block. -/
theorem new_sl {w w' : World} {E : Nat → Option Nat} {v : Value} {rows : List (List AV)} (hat : ∀ r ∈ rows, ∀ x ∈ r, ∃ u, x = AV.at u) (h3 : R1 (cellsOf w') noE (.slice rows false .no) v) {g n cap : Nat} (hv : v = .slice (some ⟨g, 0, none⟩) n cap) (hg : w.heap.size ≤ g) : R1 (newCells w w') E (.slice rows false .no) v := by
  cases h3 with
  | slice _ own b off cap' sz val hlen hsz hfull hpl hS hR =>
    simp only [Value.slice.injEq, Option.some.injEq, Addr.mk.injEq] at hv
    obtain ⟨⟨rfl, rfl, _⟩, _, rfl⟩ := hv
    refine .slice _ _ _ _ _ sz val hlen hsz hfull hpl (fun i j x hx => ?_) (fun i j x hx => ?_)
    · have := hS i j x hx
      unfold newCells
      rw [if_neg (by dsimp only; omega)]
      exact this
    · obtain ⟨u, rfl⟩ : ∃ u, x = AV.at u := by
        unfold cellAt at hx
        cases hr : rows[i]? with
        | none => rw [hr] at hx; cases hx
        | some r =>
          rw [hr] at hx
          exact hat r (List.mem_of_getElem? hr) x (List.mem_of_getElem? hx)
      have h4 := hR i j _ hx
      generalize val i j = q at h4 ⊢
      cases h4
      exact .at _
/-- A row of entries that came into being. -/
theorem new_E {w w' : World} {E : Nat → Option Nat} {v : Value} {l : List V.R10.En} (h : w'.ownsRow w.heap.size 34 5 v l.length (l.flatMap cellsE)) (hn : l = [] → v = .slice none 0 0) : R1 (newCells w w') E (.slice (l.map (encR reE)) l.isEmpty .no) v := by
  cases l with
  | nil => rw [hn rfl]; exact .nil _
  | cons e0 l0 =>
    have hs := sl_of_owns h
    obtain ⟨nl, h1, h2, h3⟩ := cells_sl hs
    cases nl with
    | true => cases h1 rfl
    | false =>
      rcases h.2 with ⟨_, h0⟩ | ⟨g, cap, cur, hv, hbase, _⟩
      · cases h0
      · refine new_sl (fun r hr x hx => ?_) h3 hv hbase
        obtain ⟨e, _, rfl⟩ := List.mem_map.1 hr
        simp [encR, encC] at hx
        rcases hx with rfl | rfl | rfl | rfl | rfl <;> exact ⟨_, rfl⟩
/-- A row of strings. -/
theorem cells_ss {w : World} {base : Nat} {v : Value} {cs : List (List UInt8)} (h : w.ownsRow base 9 1 v cs.length (cs.map encStr)) (hn : cs = [] → v = .slice none 0 0) : R1 (cellsOf w) noE (.slice (cs.map (encR (.one .str))) cs.isEmpty .no) v := by
  cases cs with
  | nil => rw [hn rfl]; exact .nil _
  | cons c0 l0 =>
    rcases h.2 with ⟨_, h0⟩ | ⟨g, cap, cur, hv, hbase, hrest⟩
    · cases h0
    · subst hv
      have hcell : ∀ i s, (c0 :: l0)[i]? = some s → w.cell? ⟨g, i, none⟩ = some (.string ⟨⟨s⟩⟩) := fun i s hs => by
        have hi : i < (c0 :: l0).length := (List.getElem?_eq_some_iff.1 hs).1
        rw [h.cellAt i (by omega), List.getElem?_map, hs]
        rfl
      have key : ∀ i j x, cellAt ((c0 :: l0).map (encR (.one .str))) i j = some x → ∃ s, (c0 :: l0)[i]? = some s ∧ j = 0 ∧ x = .at (.string ⟨⟨s⟩⟩) := by
        intro i j x hx
        unfold cellAt at hx
        rw [List.getElem?_map] at hx
        cases hs : (c0 :: l0)[i]? with
        | none => rw [hs] at hx; cases hx
        | some s =>
          rw [hs] at hx
          match j with
          | 0 => exact ⟨s, rfl, rfl, by cases hx; rfl⟩
          | j + 1 => simp [encR] at hx
      have := R1.slice (S := cellsOf w) (E := noE) ((c0 :: l0).map (encR (.one .str))) .no g 0 cap 1 (fun i j => ((w.cell? ⟨g, 0 + (i * 1 + j), none⟩).getD default)) (by rw [List.length_map]; exact hrest.2.1)
        (fun r hr => by obtain ⟨e, _, rfl⟩ := List.mem_map.1 hr; rfl) (fun e => by cases e) (fun i j x hx => by obtain ⟨s, _, _, rfl⟩ := key i j x hx; rfl)
        (fun i j x hx => by obtain ⟨s, hs, rfl, rfl⟩ := key i j x hx; show w.cell? _ = _; have := hcell i s hs; simp only [Nat.zero_add, Nat.mul_one, Nat.add_zero]; rw [this]; rfl)
        (fun i j x hx => by obtain ⟨s, hs, rfl, rfl⟩ := key i j x hx; have := hcell i s hs; simp only [Nat.zero_add, Nat.mul_one, Nat.add_zero]; rw [this]; exact .at _)
      rwa [List.length_map] at this
theorem new_ss {w w' : World} {E : Nat → Option Nat} {v : Value} {cs : List (List UInt8)} (h : w'.ownsRow w.heap.size 9 1 v cs.length (cs.map encStr)) (hn : cs = [] → v = .slice none 0 0) : R1 (newCells w w') E (.slice (cs.map (encR (.one .str))) cs.isEmpty .no) v := by
  have h3 := cells_ss h hn
  cases cs with
  | nil => rw [hn rfl]; exact .nil _
  | cons e0 l0 =>
    rcases h.2 with ⟨_, h0⟩ | ⟨g, cap, cur, hv, hbase, _⟩
    · cases h0
    · refine new_sl (fun r hr x hx => ?_) h3 hv hbase
      obtain ⟨e, _, rfl⟩ := List.mem_map.1 hr
      simp [encR, encC] at hx
      subst hx
      exact ⟨_, rfl⟩
end Go.Proofs.W.Q10
