/- The hand: put and drop, walked. -/
import Derived.Test.YtboeaelijjamoaaGreatDoorK37
import Derived.Deep.RegionLaw
import Derived.BigRegion
import Derived.Deep.RegionHeld3
namespace Go.Proofs.V.R11
open Go Go.Proofs Go.RowKit Go.Lib Go.Proofs.V Go.Proofs.W Go.Proofs.W.C Go.Proofs.V.U11
set_option linter.unusedVariables false
set_option linter.unusedSimpArgs false
set_option maxRecDepth 100000
theorem put_ne {t : List Fi} {p d : List UInt8} {y : List Fi × Int} (hb : ∀ g ∈ t, g.1.length ≤ 1000000) (hy : Q11.tree_Put t p d = some y) (h0 : y.2 = 0) : y.1 ≠ [] := by
  obtain ⟨r, hr⟩ := Q9.treeRight_ends t hb
  unfold Q11.tree_Put at hy
  rw [hr, Option.bind_some] at hy
  cases r with
  | false => cases hy; exact absurd h0 (by decide)
  | true =>
    obtain ⟨k, is, hp, hk, hki⟩ := place_of (p := p) hb hr
    rw [if_neg (by simp), hp] at hy
    simp only [Option.bind_some, Option.bind_eq_some_iff] at hy
    obtain ⟨b, _, hy⟩ := hy
    split at hy
    · cases hy; exact absurd h0 (by decide)
    · simp only [Option.bind_eq_some_iff] at hy
      obtain ⟨c, _, hy⟩ := hy
      split at hy
      · cases hy; exact absurd h0 (by decide)
      · split at hy
        · cases hy; exact absurd h0 (by decide)
        · split at hy
          · rename_i his
            cases hy
            intro e
            have h1 := congrArg List.length e
            have h2 := hki his
            simp only [List.length_set, List.length_nil] at h1
            omega
          · cases hy; simp
theorem put_nn {w : World} {base : Nat} {v : Value} {t : List Fi} {p d : List UInt8} {y : List Fi × Int} (hb : ∀ g ∈ t, g.1.length ≤ 1000000) (hy : Q11.tree_Put t p d = some y) (h : w.ownsRow base 38 2 v y.1.length (y.1.flatMap cellsF)) (h0 : y.2 = 0) : v ≠ .slice none 0 0 := by
  obtain ⟨ao, cv, rfl, k⟩ := own_form h
  obtain ⟨g, rfl⟩ := k (List.length_pos_iff.2 (put_ne hb hy h0))
  simp
theorem hdone {w w0 w1 : World} {h : Nat} {v1 vt : Value} {ys : List Fi} {r : Int} {e : Ending} (hb0 : Below w.heap.size w w0) (hb1 : Below w0.drew.heap.size w0.drew w1) (hs1 : w1.ownsRow w0.drew.heap.size 38 2 v1 ys.length (ys.flatMap cellsF)) (he : e = .returned (.int .i64 r)) (hhw : h < w.heap.size) (hh0 : h < w0.heap.size)
    (e0 : w1.cell? ⟨h, 0, none⟩ = some vt) (z0 : w1.frozen? ⟨h, 0, none⟩ = false) (hz : r = 0 → v1 ≠ .slice none 0 0) : ∃ v', e = .returned (.int .i64 r) ∧ (w1.setCell ⟨h, 0, none⟩ v1).cell? ⟨h, 0, none⟩ = some v' ∧ (w1.setCell ⟨h, 0, none⟩ v1).frozen? ⟨h, 0, none⟩ = false ∧ (w1.setCell ⟨h, 0, none⟩ v1).ownsRow (h + 1) 38 2 v' ys.length (ys.flatMap cellsF) ∧ Below h w (w1.setCell ⟨h, 0, none⟩ v1) ∧ (r = 0 → v' ≠ .slice none 0 0) := by
  have hg : w1.grownBy (w1.setCell ⟨h, 0, none⟩ v1) (some h) := ⟨rfl, rfl, rfl, by simp, fun k hk hne => by simp [World.setCell, Array.getElem?_modify]; intro e; exact absurd (by rw [e]) hne⟩
  have hs2 := hs1.kept hg (by
    cases hv : v1.ownBlock with
    | none => exact .inl rfl
    | some k => exact .inr fun e => by have := (hs1.lt k hv).1; cases e; simp at this; omega)
  refine ⟨v1, he, ?_, by rw [World.frozen?_setCell]; exact z0, own_base hs2 (by show h + 1 ≤ w0.heap.size; omega), ?_, hz⟩
  · exact World.cell?_setCell_same _ _ _ e0
  · exact ((hb0.mono (by omega)).trans ((Below.refl _ w0).drew.trans (hb1.mono (by show h ≤ w0.heap.size; omega)))).setCell (Nat.le_refl h) _
set_option maxHeartbeats 4000000 in
theorem hdrop_calls {w : World} {h : Nat} {vt : Value} {t : List Fi} {p d : List UInt8} {b : Bool} {y : List Fi × Int} (hh : w.cell? ⟨h, 0, none⟩ = some vt) (hf : w.frozen? ⟨h, 0, none⟩ = false) (hs : SlR reF w vt t) (hb : ∀ g ∈ t, g.1.length ≤ 1000000) (hn : t.length ≤ 1000) (hy : Q11.tree_Drop t p = some y) :
    Calls Tryz.prog 20 #[.pointer (some ⟨h, 0, none⟩), .agg #[.string ⟨⟨p⟩⟩, .bool b, .string ⟨⟨d⟩⟩]] w fun e w' => ∃ v', e = .returned (.int .i64 y.2) ∧ w'.cell? ⟨h, 0, none⟩ = some v' ∧ w'.frozen? ⟨h, 0, none⟩ = false ∧ w'.ownsRow (h + 1) 38 2 v' y.1.length (y.1.flatMap cellsF) ∧ Below h w w' ∧ (y.2 = 0 → v' ≠ .slice none 0 0) := by
  have hhw : h < w.heap.size := World.block_lt_of_cell? w ⟨h, 0, none⟩ hh
  have hb0 := (Below.refl w.heap.size w).alloc (Nat.le_refl _) (.cells #[.string ⟨⟨p⟩⟩, .bool b, .string ⟨⟨d⟩⟩] 41)
  have d0 : (w.alloc (.cells #[.string ⟨⟨p⟩⟩, .bool b, .string ⟨⟨d⟩⟩] 41)).cell? ⟨h, 0, none⟩ = some vt := keep_cell hb0 hh
  have d1 : (w.alloc (.cells #[.string ⟨⟨p⟩⟩, .bool b, .string ⟨⟨d⟩⟩] 41)).cell? ⟨w.heap.size, 0, none⟩ = some (.string ⟨⟨p⟩⟩) := by rw [row_cell (heap_alloc_new w _) 0]; rfl
  have hs0 := hs.below hb0
  have f0 : (w.alloc (.cells #[.string ⟨⟨p⟩⟩, .bool b, .string ⟨⟨d⟩⟩] 41)).frozen? ⟨h, 0, none⟩ = false := (hb0.frozen hhw).trans hf
  generalize hw0 : w.alloc (.cells #[.string ⟨⟨p⟩⟩, .bool b, .string ⟨⟨d⟩⟩] 41) = w0 at *
  have hsd : SlR reF w0.drew vt t := hs0.below (Below.refl _ _).drew
  have hh0 : h < w0.heap.size := World.block_lt_of_cell? w0 ⟨h, 0, none⟩ d0
  go_enter Tryz.func20, Tryz.ntmps20
  go_wp2
  go_region_law (first | (go_simp; go_at_call 37; refine (drop_calls (w := w0.drew) hsd hb hn hy).mono ?_; rintro e w1 ⟨v1, rfl, hb1, hs1, hnz⟩; obtain ⟨a1, c1, rfl, -⟩ := own_form hs1; have e0 : w1.cell? ⟨h, 0, none⟩ = some vt := keep_cell hb1 d0; have z0 : w1.frozen? ⟨h, 0, none⟩ = false := (hb1.frozen (by exact hh0)).trans f0))
  all_goals go_wp2
  all_goals go_ret
  all_goals exact hdone hb0 hb1 hs1 rfl hhw hh0 e0 z0 hnz
set_option maxHeartbeats 4000000 in
theorem hput_calls {w : World} {h : Nat} {vt : Value} {t : List Fi} {p d : List UInt8} {b : Bool} {y : List Fi × Int} (hh : w.cell? ⟨h, 0, none⟩ = some vt) (hf : w.frozen? ⟨h, 0, none⟩ = false) (hs : SlR reF w vt t) (hb : ∀ g ∈ t, g.1.length ≤ 1000000) (hn : t.length ≤ 1000) (hy : Q11.tree_Put t p d = some y) :
    Calls Tryz.prog 21 #[.pointer (some ⟨h, 0, none⟩), .agg #[.string ⟨⟨p⟩⟩, .bool b, .string ⟨⟨d⟩⟩]] w fun e w' => ∃ v', e = .returned (.int .i64 y.2) ∧ w'.cell? ⟨h, 0, none⟩ = some v' ∧ w'.frozen? ⟨h, 0, none⟩ = false ∧ w'.ownsRow (h + 1) 38 2 v' y.1.length (y.1.flatMap cellsF) ∧ Below h w w' ∧ (y.2 = 0 → v' ≠ .slice none 0 0) := by
  have hhw : h < w.heap.size := World.block_lt_of_cell? w ⟨h, 0, none⟩ hh
  have hb0 := (Below.refl w.heap.size w).alloc (Nat.le_refl _) (.cells #[.string ⟨⟨p⟩⟩, .bool b, .string ⟨⟨d⟩⟩] 41)
  have d0 : (w.alloc (.cells #[.string ⟨⟨p⟩⟩, .bool b, .string ⟨⟨d⟩⟩] 41)).cell? ⟨h, 0, none⟩ = some vt := keep_cell hb0 hh
  have d1 : (w.alloc (.cells #[.string ⟨⟨p⟩⟩, .bool b, .string ⟨⟨d⟩⟩] 41)).cell? ⟨w.heap.size, 0, none⟩ = some (.string ⟨⟨p⟩⟩) := by rw [row_cell (heap_alloc_new w _) 0]; rfl
  have d2 : (w.alloc (.cells #[.string ⟨⟨p⟩⟩, .bool b, .string ⟨⟨d⟩⟩] 41)).cell? ⟨w.heap.size, 2, none⟩ = some (.string ⟨⟨d⟩⟩) := by rw [row_cell (heap_alloc_new w _) 2]; rfl
  have hs0 := hs.below hb0
  have f0 : (w.alloc (.cells #[.string ⟨⟨p⟩⟩, .bool b, .string ⟨⟨d⟩⟩] 41)).frozen? ⟨h, 0, none⟩ = false := (hb0.frozen hhw).trans hf
  generalize hw0 : w.alloc (.cells #[.string ⟨⟨p⟩⟩, .bool b, .string ⟨⟨d⟩⟩] 41) = w0 at *
  have hsd : SlR reF w0.drew vt t := hs0.below (Below.refl _ _).drew
  have hh0 : h < w0.heap.size := World.block_lt_of_cell? w0 ⟨h, 0, none⟩ d0
  go_enter Tryz.func21, Tryz.ntmps21
  go_wp2
  go_region_law (first | (go_simp; go_at_call 38; refine (put_calls (w := w0.drew) hsd hb hn hy).mono ?_; rintro e w1 ⟨v1, rfl, hb1, hs1⟩; have hnz := put_nn hb hy hs1; obtain ⟨a1, c1, rfl, -⟩ := own_form hs1; have e0 : w1.cell? ⟨h, 0, none⟩ = some vt := keep_cell hb1 d0; have z0 : w1.frozen? ⟨h, 0, none⟩ = false := (hb1.frozen (by exact hh0)).trans f0))
  all_goals go_wp2
  all_goals go_ret
  all_goals exact hdone hb0 hb1 hs1 rfl hhw hh0 e0 z0 hnz
end Go.Proofs.V.R11
namespace Go.Proofs.V.R11
open Go Go.Proofs Go.RowKit Go.Lib Go.Proofs.V Go.Proofs.W Go.Proofs.W.C Go.Proofs.V.U11
set_option linter.unusedVariables false
set_option linter.unusedSimpArgs false
set_option maxRecDepth 100000
abbrev Ac := List UInt8 × (Bool × List UInt8)
abbrev reA : RT := .cons .str (.cons .bool (.one .str))
def cellsA (e : Ac) : List Value := [.string ⟨⟨e.1⟩⟩, .bool e.2.1, .string ⟨⟨e.2.2⟩⟩]
theorem kA : Cells reA 3 cellsA := ⟨rfl, fun x => rfl, fun x => rfl, fun x u hu => by simp [cellsA] at hu; rcases hu with rfl | rfl | rfl <;> rfl⟩
/-- What trees stay within. -/
def TB (t : List Fi) : Prop := t.length ≤ 1000 ∧ ∀ g ∈ t, g.1.length ≤ 1000000
theorem right_len {t : List Fi} (hb : ∀ g ∈ t, g.1.length ≤ 1000000) (h : Q9.tree_Right t = some true) : t.length ≤ 16 := (Q10.treeX_fwd hb h).len
theorem put_bound {t : List Fi} {p d : List UInt8} {y : List Fi × Int} (h : TB t) (hp : p.length ≤ 1000000) (hy : Q11.tree_Put t p d = some y) : TB y.1 := by
  obtain ⟨r, hr⟩ := Q9.treeRight_ends t h.2
  unfold Q11.tree_Put at hy
  rw [hr, Option.bind_some] at hy
  have hnil : TB ([] : List Fi) := ⟨by simp, fun g hg => by cases hg⟩
  cases r with
  | false => cases hy; exact hnil
  | true =>
    have hl := right_len h.2 hr
    rw [if_neg (by simp)] at hy
    simp only [Option.bind_eq_some_iff] at hy
    obtain ⟨k, _, b, _, hy⟩ := hy
    split at hy
    · cases hy; exact hnil
    · simp only [Option.bind_eq_some_iff] at hy
      obtain ⟨c, _, hy⟩ := hy
      split at hy
      · cases hy; exact hnil
      · split at hy
        · cases hy; exact hnil
        · split at hy
          · cases hy
            refine ⟨by simp; omega, fun g hg => ?_⟩
            rcases List.mem_or_eq_of_mem_set hg with h1 | h1
            · exact h.2 g h1
            · rw [h1]; exact hp
          · cases hy
            refine ⟨by simp; omega, fun g hg => ?_⟩
            simp only [List.mem_append, List.mem_singleton] at hg
            rcases hg with (h1 | h1) | h1
            · exact h.2 g (List.mem_of_mem_take h1)
            · rw [h1]; exact hp
            · exact h.2 g (List.mem_of_mem_drop h1)
theorem drop_bound {t : List Fi} {p : List UInt8} {y : List Fi × Int} (h : TB t) (hy : Q11.tree_Drop t p = some y) : TB y.1 := by
  obtain ⟨r, hr⟩ := Q9.treeRight_ends t h.2
  unfold Q11.tree_Drop at hy
  rw [hr, Option.bind_some] at hy
  have hnil : TB ([] : List Fi) := ⟨by simp, fun g hg => by cases hg⟩
  cases r with
  | false => cases hy; exact hnil
  | true =>
    have hl := right_len h.2 hr
    rw [if_neg (by simp)] at hy
    simp only [Option.bind_eq_some_iff] at hy
    obtain ⟨k, _, hy⟩ := hy
    split at hy
    · cases hy; exact hnil
    · cases hy
      refine ⟨by simp; omega, fun g hg => ?_⟩
      simp only [List.mem_append] at hg
      rcases hg with h1 | h1
      · exact h.2 g (List.mem_of_mem_take h1)
      · exact h.2 g (List.mem_of_mem_drop h1)
/-- An action's row in memory. -/
theorem rowA {w : World} {b off : Nat} {l : List Ac} (h : ∀ j u, (l.flatMap cellsA)[j]? = some u → w.cell? ⟨b, off + j, none⟩ = some u) {k : Nat} {e : Ac} (hk : l[k]? = some e) :
    w.cell? ⟨b, off + k * 3, none⟩ = some (.string ⟨⟨e.1⟩⟩) ∧ w.cell? ⟨b, off + k * 3 + 1, none⟩ = some (.bool e.2.1) ∧ w.cell? ⟨b, off + k * 3 + 2, none⟩ = some (.string ⟨⟨e.2.2⟩⟩) :=
  ⟨by have := h _ _ (kA.at l k 0 e _ hk rfl); simpa using this, by have := h _ _ (kA.at l k 1 e _ hk rfl); rwa [← Nat.add_assoc] at this, by have := h _ _ (kA.at l k 2 e _ hk rfl); rwa [← Nat.add_assoc] at this⟩
theorem grown_of {a b : World} (h : Below a.heap.size a b) : a.grownBy b none := ⟨h.os, h.tape, h.output, h.size, fun i hi _ => h.block i hi⟩
theorem apart_none (v : Value) : v.ownBlock = none ∨ v.ownBlock ≠ none := by
  cases v.ownBlock with
  | none => exact .inl rfl
  | some k => exact .inr (by simp)
theorem do_one {w : World} {vt vl : Value} {t : List Fi} {room : Int} (st : SlR reF w vt t) (hr : Q9.tree_Right t = some false) :
    Calls Tryz.prog 7 #[vt, vl, .int .i64 room] w fun e w' => e = .returned (.tuple #[.slice none 0 0, .int .i64 1]) ∧ Below w.heap.size w w' := by
  go_enter Tryz.func7, Tryz.ntmps7
  go_wp2_with (first
    | (go_at_call 18; refine (right_calls st hr).mono ?_; rintro e w1 ⟨rfl, hb1⟩))
  go_ret2
  exact ⟨rfl, hb1⟩
set_option maxHeartbeats 4000000 in
theorem do_two {w : World} {vt : Value} {b off cap : Nat} {t : List Fi} {l : List Ac} {room : Int} {z : List Fi × Int} (st : SlR reF w vt t) (hl : ∀ j u, (l.flatMap cellsA)[j]? = some u → w.cell? ⟨b, off + j, none⟩ = some u) (tb : TB t) (hln : l.length ≤ 1000) (hcl : l.length ≤ cap) (hla : ∀ a ∈ l, a.1.length ≤ 1000000)
    (hr : Q9.tree_Right t = some true) (hy : Q11.doAll t l = some z) {n : Int} (hzn : z.2 = 0 → Q11.tree_Size z.1 = some n) :
    Calls Tryz.prog 7 #[vt, .slice (some ⟨b, off, none⟩) l.length cap, .int .i64 room] w fun e w' => Below w.heap.size w w' ∧
      ((z.2 ≠ 0 ∧ e = .returned (.tuple #[.slice none 0 0, .int .i64 z.2])) ∨ (z.2 = 0 ∧ room < n ∧ e = .returned (.tuple #[.slice none 0 0, .int .i64 2])) ∨
       (z.2 = 0 ∧ ¬ room < n ∧ ∃ v', e = .returned (.tuple #[v', .int .i64 0]) ∧ w'.ownsRow w.heap.size 38 2 v' z.1.length (z.1.flatMap cellsF) ∧ (v' = .slice none 0 0 ↔ l = [] ∧ vt = .slice none 0 0))) := by
  obtain ⟨ao, ca, rfl⟩ := SlR.len kF st
  go_enter Tryz.func7, Tryz.ntmps7
  go_wp2_with (first
    | (go_at_call 18; refine (right_calls st hr).mono ?_; rintro e w1 ⟨rfl, hb1⟩)
    | (go_at_call 19; refine (clone_calls (st.below hb1) tb.1).mono ?_; rintro e w2 ⟨vc, rfl, hown, hb2, hvn⟩; obtain ⟨ac, cv, rfl, -⟩ := own_form hown; have hb12 := hb1.trans (hb2.mono hb1.size)))
  have hbW : Below w.heap.size w (w2.alloc (.cells #[.slice ac t.length cv] 45)) := hb12.alloc hb12.size _
  have hcW : (w2.alloc (.cells #[.slice ac t.length cv] 45)).cell? ⟨w2.heap.size, 0, none⟩ = some (.slice ac t.length cv) := by rw [row_cell (heap_alloc_new w2 _) 0]; rfl
  have hfW : (w2.alloc (.cells #[.slice ac t.length cv] 45)).frozen? ⟨w2.heap.size, 0, none⟩ = false := row_frozen (heap_alloc_new w2 _) 0
  have hoW := own_base (hown.alloc (.cells #[.slice ac t.length cv] 45)) hb1.size
  have hhb : w.heap.size ≤ w2.heap.size := hb12.size
  have hhw : w2.heap.size < (w2.alloc (.cells #[.slice ac t.length cv] 45)).heap.size := by simp
  generalize hwW : w2.alloc (.cells #[.slice ac t.length cv] 45) = W at *
  generalize hwh : w2.heap.size = h at *
  clear hown hb2 hb12 hwW
  go_loopw [22] (fun c wr => ∃ (k : Nat) (tk : List Fi) (vk : Value), k ≤ l.length ∧ c = .int .i64 k ∧ Q11.doAll tk (l.drop k) = some z ∧ TB tk ∧ wr.cell? ⟨h, 0, none⟩ = some vk ∧ wr.frozen? ⟨h, 0, none⟩ = false ∧ wr.ownsRow w.heap.size 38 2 vk tk.length (tk.flatMap cellsF) ∧ Below w.heap.size w wr ∧ (vk = .slice none 0 0 ↔ k = 0 ∧ Value.slice ao t.length ca = .slice none 0 0))
    (fun c _ => l.length - (RowKit.intOf c).toNat)
  case atStart => exact ⟨0, t, _, Nat.zero_le _, rfl, by rw [List.drop_zero]; exact hy, tb, hcW, hfW, hoW, hbW, by rw [hvn]; simp⟩
  case round =>
    obtain ⟨k, tk, vk, hk, rfl, hyk, tbk, hck, hfk, hok, hbk, hvk⟩ := hrel
    by_cases hlt : k < l.length
    · have hle := List.getElem?_eq_getElem hlt
      obtain ⟨r0, r1, r2⟩ := rowA hl hle
      have r0 := (hbk.cell (World.block_lt_of_cell? w _ r0)).trans r0
      have r1 := (hbk.cell (World.block_lt_of_cell? w _ r1)).trans r1
      have r2 := (hbk.cell (World.block_lt_of_cell? w _ r2)).trans r2
      have hpl := hla l[k] (List.getElem_mem hlt)
      obtain ⟨p, bb, d, hpe⟩ : ∃ p bb d, l[k] = (p, (bb, d)) := ⟨_, _, _, rfl⟩
      rw [hpe] at r0 r1 r2 hpl
      dsimp only at r0 r1 r2 hpl
      rw [List.drop_eq_getElem_cons hlt, hpe, Q11.doAll] at hyk
      obtain ⟨⟨y1, y2⟩, hy1, hyl⟩ := Option.bind_eq_some_iff.1 hyk
      dsimp only at hyl
      clear hyk
      have i1 : (k : Int) < (l.length : Int) := by omega
      have hak : Below wr.heap.size wr (wr.alloc (.cells #[.string ⟨⟨p⟩⟩, .bool bb, .string ⟨⟨d⟩⟩] 41)) := (Below.refl _ wr).alloc (Nat.le_refl _) _
      have hck2 := keep_cell hak hck
      have hfk2 : (wr.alloc (.cells #[.string ⟨⟨p⟩⟩, .bool bb, .string ⟨⟨d⟩⟩] 41)).frozen? ⟨h, 0, none⟩ = false := (hak.frozen (World.block_lt_of_cell? wr ⟨h, 0, none⟩ hck)).trans hfk
      have hsk := (slR_own kF hok).below hak
      have hbk2 : Below w.heap.size w (wr.alloc (.cells #[.string ⟨⟨p⟩⟩, .bool bb, .string ⟨⟨d⟩⟩] 41)) := hbk.alloc hbk.size _
      clear hl hle hoW hcW hfW hbW hok
      cases bb with
      | false =>
        have hy1 : Q11.tree_Drop tk p = some (y1, y2) := hy1
        have tb1 := drop_bound tbk hy1
        by_cases h0 : y2 = 0
        · subst h0
          rw [if_pos rfl] at hyl
          go_wp2_with (first
            | (go_at_call 20; refine (hdrop_calls hck2 hfk2 hsk tbk.2 tbk.1 hy1).mono ?_; rintro e5 w5 ⟨v5, rfl, hc5, hf5, ho5, hb5, hn5⟩))
          exact ⟨⟨k + 1, y1, v5, by omega, by go_num, hyl, tb1, hc5, hf5, own_base ho5 (by omega), hbk2.trans (hb5.mono hhb), ⟨fun e => absurd e (hn5 trivial), fun e => by omega⟩⟩, by simp [RowKit.intOf]; omega⟩
        · rw [if_neg h0] at hyl
          cases hyl
          have h0' : (y2 != 0) = true := by simpa using h0
          go_wp2_with (first
            | (go_at_call 20; refine (hdrop_calls hck2 hfk2 hsk tbk.2 tbk.1 hy1).mono ?_; rintro e5 w5 ⟨v5, rfl, hc5, hf5, ho5, hb5, hn5⟩))
          go_ret2
          exact ⟨hbk2.trans (hb5.mono hhb), rfl⟩
      | true =>
        have hy1 : Q11.tree_Put tk p d = some (y1, y2) := hy1
        have tb1 := put_bound tbk hpl hy1
        by_cases h0 : y2 = 0
        · subst h0
          rw [if_pos rfl] at hyl
          go_wp2_with (first
            | (go_at_call 21; refine (hput_calls hck2 hfk2 hsk tbk.2 tbk.1 hy1).mono ?_; rintro e5 w5 ⟨v5, rfl, hc5, hf5, ho5, hb5, hn5⟩))
          exact ⟨⟨k + 1, y1, v5, by omega, by go_num, hyl, tb1, hc5, hf5, own_base ho5 (by omega), hbk2.trans (hb5.mono hhb), ⟨fun e => absurd e (hn5 trivial), fun e => by omega⟩⟩, by simp [RowKit.intOf]; omega⟩
        · rw [if_neg h0] at hyl
          cases hyl
          have h0' : (y2 != 0) = true := by simpa using h0
          go_wp2_with (first
            | (go_at_call 21; refine (hput_calls hck2 hfk2 hsk tbk.2 tbk.1 hy1).mono ?_; rintro e5 w5 ⟨v5, rfl, hc5, hf5, ho5, hb5, hn5⟩))
          go_ret2
          exact ⟨hbk2.trans (hb5.mono hhb), rfl⟩
    · have hkk : k = l.length := by omega
      subst hkk
      rw [List.drop_length, Q11.doAll] at hyk
      cases hyk
      have hzn := hzn rfl
      obtain ⟨ak, ck, rfl, -⟩ := own_form hok
      by_cases hr2 : room < n
      · go_wp2_with (first
          | (go_at_call 22; refine (size_calls (slR_own kF hok) hzn).mono ?_; rintro e5 w5 ⟨rfl, hb5⟩))
        go_ret2
        exact ⟨hbk.trans (hb5.mono hbk.size), .inl rfl⟩
      · go_wp2_with (first
          | (go_at_call 22; refine (size_calls (slR_own kF hok) hzn).mono ?_; rintro e5 w5 ⟨rfl, hb5⟩; have hck5 := keep_cell hb5 hck))
        go_ret2
        exact ⟨hbk.trans (hb5.mono hbk.size), .inr ⟨.slice ak tk.length ck, rfl, hok.kept (grown_of hb5) (apart_none _), hvk.trans (by cases l <;> simp)⟩⟩
/-- No actions. -/
theorem do_nil {w : World} {vt : Value} {t : List Fi} {room : Int} (st : SlR reF w vt t) (tb : TB t) (hr : Q9.tree_Right t = some true) {n : Int} (hzn : Q11.tree_Size t = some n) :
    Calls Tryz.prog 7 #[vt, .slice none 0 0, .int .i64 room] w fun e w' => Below w.heap.size w w' ∧
      ((room < n ∧ e = .returned (.tuple #[.slice none 0 0, .int .i64 2])) ∨
       (¬ room < n ∧ ∃ v', e = .returned (.tuple #[v', .int .i64 0]) ∧ w'.ownsRow w.heap.size 38 2 v' t.length (t.flatMap cellsF) ∧ (v' = .slice none 0 0 ↔ vt = .slice none 0 0))) := by
  obtain ⟨ao, ca, rfl⟩ := SlR.len kF st
  go_enter Tryz.func7, Tryz.ntmps7
  go_wp2_with (first
    | (go_at_call 18; refine (right_calls st hr).mono ?_; rintro e w1 ⟨rfl, hb1⟩)
    | (go_at_call 19; refine (clone_calls (st.below hb1) tb.1).mono ?_; rintro e w2 ⟨vc, rfl, hown, hb2, hvn⟩; obtain ⟨ac, cv, rfl, -⟩ := own_form hown; have hb12 := hb1.trans (hb2.mono hb1.size)))
  have hbW : Below w.heap.size w (w2.alloc (.cells #[.slice ac t.length cv] 45)) := hb12.alloc hb12.size _
  have hcW : (w2.alloc (.cells #[.slice ac t.length cv] 45)).cell? ⟨w2.heap.size, 0, none⟩ = some (.slice ac t.length cv) := by rw [row_cell (heap_alloc_new w2 _) 0]; rfl
  have hoW := own_base (hown.alloc (.cells #[.slice ac t.length cv] 45)) hb1.size
  refine wp_loop_rounds 1 ?_
  rw [rounds_succ]
  by_cases hr2 : room < n
  · go_wp2_with (first
      | (go_at_call 22; refine (size_calls (slR_own kF hoW) hzn).mono ?_; rintro e5 w5 ⟨rfl, hb5⟩))
    go_ret2
    exact ⟨hbW.trans (hb5.mono hbW.size), .inl rfl⟩
  · go_wp2_with (first
      | (go_at_call 22; refine (size_calls (slR_own kF hoW) hzn).mono ?_; rintro e5 w5 ⟨rfl, hb5⟩; have hck5 := keep_cell hb5 hcW))
    go_ret2
    exact ⟨hbW.trans (hb5.mono hbW.size), .inr ⟨.slice ac t.length cv, rfl, hoW.kept (grown_of hb5) (apart_none _), hvn.trans (by simp [List.length_eq_zero_iff])⟩⟩
end Go.Proofs.V.R11
