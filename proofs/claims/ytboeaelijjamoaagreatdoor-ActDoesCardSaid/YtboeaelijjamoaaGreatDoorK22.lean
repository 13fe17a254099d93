/- slices.Insert of one file, walked. -/
import Derived.Shelf.Spec.SlicesInsert
import Derived.Shelf.Spec.SlicesInsertGrow
import Derived.Laws.CopyOwn
import Derived.Laws.OwnMore
import Derived.Below
import Derived.WalkKit
import Derived.KernelRfl
import Derived.Test.YtboeaelijjamoaaGreatDoorProg
namespace Go.Proofs.V.R11
open Go Go.Proofs Go.RowKit Go.Lib
set_option linter.unusedVariables false
set_option linter.unusedSimpArgs false
set_option maxRecDepth 100000
abbrev Fi := List UInt8 × List UInt8
def cellsF (e : Fi) : List Value := [.string ⟨⟨e.1⟩⟩, .string ⟨⟨e.2⟩⟩]
/-- A copy of rows whose elements have k cells. -/
theorem run_copy_rowk {P : Program} (w : World) (dT sT ty elem : TypeId) (k g o dLen dCap : Nat) (a : Addr) (sLen sCap : Nat) (cur : Array Value) (t : TypeId) (cs : List Value)
    (hu : P.underlying dT = some (.slice elem)) (hs : (P.info? elem).map (·.size) = some k)
    (hg : w.heap[g]? = some (.cells cur t (0, 0))) (hn : cs.length = Nat.min sLen dLen * k)
    (hsrc : ∀ j v, cs[j]? = some v → w.cell? (a.add j) = some v) (hfit : o + cs.length ≤ cur.size) (h1 : ∀ v ∈ cs, v.oneCell' = true) :
    (Builtin.copy_ #[dT, sT] ty #[.slice (some ⟨g, o, none⟩) dLen dCap, .slice (some a) sLen sCap]).run P w =
      .ok (goInt (Nat.min sLen dLen)) (w.setRow g (cur.toList.take o ++ cs ++ cur.toList.drop (o + cs.length)).toArray) := by
  have hl := run_loadCells_list (P := P) w a cs hsrc
  have hst := run_storeCells_at P g o t cs 0 cur w hg (by simpa using hfit) h1
  cases hq : P.info? elem with
  | none => simp [hq] at hs
  | some i =>
    have hi : i.size = k := by simpa [hq] using hs
    simp [Builtin.copy_, run_underlying hu, Builtin.lenOf, Builtin.firstCells, sizeOf, typeInfo, hq, hi, ← hn, hl, hst]
theorem row_cell {w : World} {g : Nat} {cur : Array Value} {t : TypeId} {f : Nat × Nat} (hg : w.heap[g]? = some (.cells cur t f)) (j : Nat) : w.cell? ⟨g, j, none⟩ = cur[j]? := by
  rw [cell_of_row w g j cur t f hg]
theorem row_frozen {w : World} {g : Nat} {cur : Array Value} {t : TypeId} (hg : w.heap[g]? = some (.cells cur t (0, 0))) (j : Nat) : w.frozen? ⟨g, j, none⟩ = false := by
  simp [World.frozen?, hg]
theorem info54 : (Tryz.prog.info? 38).map (fun i => (i.zero, i.size, i.bytes)) = some (some (.agg #[.string ByteArray.empty, .string ByteArray.empty]), 2, 32) := by kernel_rfl
theorem size54 : (Tryz.prog.info? 38).map (·.size) = some 2 := by kernel_rfl
set_option maxHeartbeats 4000000 in
/-- There is room, and the place is not the end. -/
theorem insert_shift (w : World) (g n cap i vb : Nat) (cur : Array Value) (x0 x1 : Value) (hg : w.heap[g]? = some (.cells cur 38 (0, 0))) (hv : w.heap[vb]? = some (.cells #[x0, x1] 38 (0, 0))) (hne : vb ≠ g)
    (hi : i < n) (hroom : n + 1 ≤ cap) (hm : cap ≤ maxLen) (hsz : cur.size = cap * 2) (h1 : ∀ v ∈ cur.toList.take (n * 2), v.oneCell' = true) (h2 : ∀ v ∈ [x0, x1], v.oneCell' = true) :
    Calls Tryz.prog 55 #[.slice (some ⟨g, 0, none⟩) n cap, .int .i64 i, .slice (some ⟨vb, 0, none⟩) 1 1] w fun e w' =>
      e = .returned (.slice (some ⟨g, 0, none⟩) (n + 1) cap) ∧ ∃ B : List Value, w' = w.drew.setRow g B.toArray ∧ B.length = cap * 2 ∧ B.take ((n + 1) * 2) = (cur.toList.take (n * 2)).take (i * 2) ++ [x0, x1] ++ (cur.toList.take (n * 2)).drop (i * 2) := by
  have mixed : Tryz.prog.follows .mixedOrders = true := by kernel_rfl
  have hml : maxLen = 9223372036854775807 := rfl
  have hc63 : cap ≤ 9223372036854775807 := by omega
  have hz2 : ¬ ((i : Int) = (n : Int)) := by omega
  have hov : ∀ lb cb, (callFunc 67 #[.slice (some ⟨vb, 0, none⟩) 1 1, .slice (some ⟨g, (i + 1) * 2, none⟩) lb cb]).run Tryz.prog w = .ok (.value (.bool false)) w := fun lb cb => by
    rw [run_callFunc_extern Tryz.func67 (by kernel_rfl) (by kernel_rfl) (by kernel_rfl) (e := Extern.SlicesOverlaps.overlaps #[22, 22] #[4]) (by kernel_rfl),
      Lib.run_overlaps_apart w 22 4 38 Tryz.underlying22 2 Tryz.sizeOf38 ⟨vb, 0, none⟩ ⟨g, (i + 1) * 2, none⟩ 1 1 lb cb hne 38 38 2 (cap * 2) (by simp [World.shape?, hv]) (by simp [World.shape?, hg, hsz]) (by omega) (by simp [World.frozen?, hv]) (by simp [World.frozen?, hv])]
    rfl
  obtain ⟨seg, hseg⟩ : ∃ seg, seg = (cur.toList.take (n * 2)).drop (i * 2) := ⟨_, rfl⟩
  have hsl : seg.length = (n - i) * 2 := by rw [hseg]; simp; omega
  have hsc : ∀ j v, seg[j]? = some v → w.cell? ⟨g, i * 2 + j, none⟩ = some v := fun j v h => by
    have hj : j < (n - i) * 2 := by have := (List.getElem?_eq_some_iff.1 h).1; omega
    rw [row_cell hg, ← Array.getElem?_toList, ← h, hseg, List.getElem?_drop, List.getElem?_take, if_pos (by omega)]
  have hs1 : ∀ v ∈ seg, v.oneCell' = true := fun v hv => h1 v (by rw [hseg] at hv; exact List.mem_of_mem_drop hv)
  have hcp1 : ∀ ty dc sc, (Builtin.copy_ #[22, 22] ty #[.slice (some ⟨g, (i + 1) * 2, none⟩) (n - i) dc, .slice (some ⟨g, i * 2, none⟩) (n + 1 - i) sc]).run Tryz.prog w.drew = .ok (goInt ((n - i : Nat) : Int)) (w.drew.setRow g (cur.toList.take ((i + 1) * 2) ++ seg ++ cur.toList.drop ((i + 1) * 2 + seg.length)).toArray) := fun ty dc sc => by
    have hmin : Nat.min (n + 1 - i) (n - i) = n - i := by simp only [Nat.min_def]; split <;> omega
    have := run_copy_rowk (P := Tryz.prog) w.drew 22 22 ty 38 2 g ((i + 1) * 2) (n - i) dc ⟨g, i * 2, none⟩ (n + 1 - i) sc cur 38 seg Tryz.underlying22 size54 hg (by rw [hmin, hsl]) (fun j v h => by rw [Addr.add_lit]; exact hsc j v h) (by rw [hsl, hsz]; omega) hs1
    rw [hmin] at this
    exact this
  obtain ⟨A, hA⟩ : ∃ A, A = cur.toList.take ((i + 1) * 2) ++ seg ++ cur.toList.drop ((i + 1) * 2 + seg.length) := ⟨_, rfl⟩
  have hAl : A.length = cap * 2 := by rw [hA]; simp [hsl, hsz]; omega
  rw [← hA] at hcp1
  obtain ⟨W1, hW1⟩ : ∃ W1, W1 = w.drew.setRow g A.toArray := ⟨_, rfl⟩
  rw [← hW1] at hcp1
  have hg1 : W1.heap[g]? = some (.cells A.toArray 38 (0, 0)) := by rw [hW1]; exact setRow_heap w.drew g cur _ 38 _ hg
  have hv1 : W1.heap[vb]? = some (.cells #[x0, x1] 38 (0, 0)) := by rw [hW1, setRow_other _ _ _ _ hne]; exact hv
  have hcp2 : ∀ (W : World), W = W1 → ∀ ty dc, (Builtin.copy_ #[22, 22] ty #[.slice (some ⟨g, i * 2, none⟩) (n + 1 - i) dc, .slice (some ⟨vb, 0, none⟩) 1 1]).run Tryz.prog W = .ok (goInt 1) (W1.setRow g (A.take (i * 2) ++ [x0, x1] ++ A.drop (i * 2 + 2)).toArray) := fun W hW ty dc => by
    subst hW
    have hmin : Nat.min 1 (n + 1 - i) = 1 := by simp only [Nat.min_def]; split <;> omega
    have := run_copy_rowk (P := Tryz.prog) W 22 22 ty 38 2 g (i * 2) (n + 1 - i) dc ⟨vb, 0, none⟩ 1 1 A.toArray 38 [x0, x1] Tryz.underlying22 size54 hg1 (by rw [hmin]; rfl) (fun j v h => by
      rw [Addr.add_lit, row_cell hv1, Nat.zero_add]
      simpa using h) (by simp [hAl]; omega) h2
    rw [hmin] at this
    simpa using this
  have hw1 : IntKind.i64.wrap ((i : Int) + 1) = (i : Int) + 1 := by rw [IntKind.wrap_i64]; omega
  have hb1 : (0 : Int) ≤ (i : Int) + 1 := by omega
  have hin : i ≤ n := by omega
  have htn : ((i : Int) + 1).toNat = i + 1 := by omega
  have hb2 : ¬ (cap = i + 1) := by omega
  have hb3 : (i : Int) ≤ (n : Int) + 1 := by omega
  have hb4 : ¬ (cap = i) := by omega
  have hres : ∃ B : List Value, W1.setRow g (A.take (i * 2) ++ [x0, x1] ++ A.drop (i * 2 + 2)).toArray = w.drew.setRow g B.toArray ∧ B.length = cap * 2 ∧ B.take ((n + 1) * 2) = (cur.toList.take (n * 2)).take (i * 2) ++ [x0, x1] ++ (cur.toList.take (n * 2)).drop (i * 2) := by
    refine ⟨A.take (i * 2) ++ [x0, x1] ++ A.drop (i * 2 + 2), by rw [hW1, setRow_setRow], by simp [hAl]; omega, ?_⟩
    have e1 : A.take (i * 2) = (cur.toList.take (n * 2)).take (i * 2) := by
      rw [hA, List.append_assoc, List.take_append_of_le_length (by simp; omega), List.take_take, List.take_take]
      congr 1; omega
    have e2 : A.drop (i * 2 + 2) = seg ++ cur.toList.drop ((i + 1) * 2 + seg.length) := by
      rw [hA, List.append_assoc, List.drop_append_of_le_length (by simp; omega)]
      rw [List.drop_eq_nil_of_le (by simp; omega), List.nil_append]
    rw [e1, e2, ← hseg, ← List.append_assoc]
    rw [List.take_append_of_le_length (by simp [hsl]; omega), List.take_of_length_le (by simp [hsl]; omega)]
  clear hA hseg hsc hs1 hsl
  go_enter Tryz.func55, Tryz.ntmps55
  go_wp2_with (simp only [hov])
  go_region_law_o (refine step_copy_runI rfl _ _ 22 22 rfl _ _ (by simp [Act.eval, Act.put]) (by simp [Act.eval, Act.put]) (hcp1 _ _ _) ?_)
  go_wp2_with (at_builtin; refine wpList_copy_runI _ rfl _ _ 22 22 rfl _ _ rfl rfl (hcp2 _ rfl _ _) ?_)
  go_ret
  obtain ⟨B, b1, b2, b3⟩ := hres
  exact ⟨rfl, B, by rw [← b1, hW1]; simp, b2, by simpa using b3⟩
end Go.Proofs.V.R11
namespace Go.Proofs.V.R11
open Go Go.Proofs Go.RowKit Go.Lib
set_option linter.unusedVariables false
set_option linter.unusedSimpArgs false
set_option maxRecDepth 100000
set_option maxHeartbeats 4000000 in
/-- No room, and the place is not the end. -/
theorem insert_grow (w : World) (g n cap i vb : Nat) (cur : Array Value) (x0 x1 : Value) (hg : w.heap[g]? = some (.cells cur 38 (0, 0))) (hv : w.heap[vb]? = some (.cells #[x0, x1] 38 (0, 0))) (hne : vb ≠ g)
    (hi : i < n) (hnc : n ≤ cap) (hroom : cap < n + 1) (hn : n ≤ 2000) (hsz : cur.size = cap * 2) (h1 : ∀ v ∈ cur.toList.take (n * 2), v.oneCell' = true) (h2 : ∀ v ∈ [x0, x1], v.oneCell' = true) :
    Calls Tryz.prog 55 #[.slice (some ⟨g, 0, none⟩) n cap, .int .i64 i, .slice (some ⟨vb, 0, none⟩) 1 1] w fun e w' =>
      ∃ (G : Nat) (B : List Value), e = .returned (.slice (some ⟨w.heap.size, 0, none⟩) (n + 1) G) ∧ n + 1 ≤ G ∧ G ≤ maxLen ∧ w'.heap[w.heap.size]? = some (.cells B.toArray 38 (0, 0)) ∧ B.length = G * 2 ∧
        B.take ((n + 1) * 2) = (cur.toList.take (n * 2)).take (i * 2) ++ [x0, x1] ++ (cur.toList.take (n * 2)).drop (i * 2) ∧ Below w.heap.size w w' := by
  have mixed : Tryz.prog.follows .mixedOrders = true := by kernel_rfl
  have hml : maxLen = 9223372036854775807 := rfl
  obtain ⟨i0, hi0, hz0, hzs, hzb⟩ := info_parts info54
  have hz2 : ¬ ((i : Int) = (n : Int)) := by omega
  have hz3 : (cap : Int) < (n : Int) + 1 := by omega
  have hgw : g < w.heap.size := (Array.getElem?_eq_some_iff.1 hg).1
  have hvw : vb < w.heap.size := (Array.getElem?_eq_some_iff.1 hv).1
  have hkk : (n : Int) + 1 - (i : Int) = ((n + 1 - i : Nat) : Int) := by omega
  have hik : i + (n + 1 - i) = n + 1 := by omega
  obtain ⟨xs, hxs⟩ : ∃ xs, xs = cur.toList.take (n * 2) := ⟨_, rfl⟩
  rw [← hxs] at h1 ⊢
  have hxl : xs.length = n * 2 := by rw [hxs]; simp; omega
  have hxc : ∀ j v, xs[j]? = some v → w.cell? ⟨g, j, none⟩ = some v := fun j v h => by
    have hj : j < n * 2 := by have := (List.getElem?_eq_some_iff.1 h).1; omega
    rw [row_cell hg, ← Array.getElem?_toList, ← h, hxs, List.getElem?_take, if_pos hj]
  have hold : (Builtin.firstCells i0.size i (.slice (some ⟨g, 0, none⟩) i cap)).run Tryz.prog w.drew = .ok (xs.take (i * 2)).toArray w.drew := by
    rw [hzs]
    exact run_firstCells_some w.drew 2 i ⟨g, 0, none⟩ i cap (xs.take (i * 2)) (by rw [List.length_take]; omega) (fun j v hj => by
      rw [Addr.add_lit, Nat.zero_add]
      rw [List.getElem?_take] at hj
      split at hj
      · exact hxc j v hj
      · cases hj)
  obtain ⟨G, hG⟩ : ∃ G, G = grownCap w (n + 1) cap 38 := ⟨_, rfl⟩
  obtain ⟨ROW, hROW⟩ : ∃ ROW : Array Value, ROW = (xs.take (i * 2)).toArray ++ Builtin.zeroCells (Value.agg #[.string ByteArray.empty, .string ByteArray.empty]).cells (n + 1 - i) ++ Builtin.zeroCells (Value.agg #[.string ByteArray.empty, .string ByteArray.empty]).cells (G - (n + 1)) := ⟨_, rfl⟩
  have hGn : n + 1 ≤ G := by rw [hG]; exact grownCap_ge w _ _ _
  have hGm : G ≤ maxLen := by rw [hG]; exact grownCap_le_maxLen w (n + 1) cap 38 (by omega)
  have hrz : ∀ ty, (Builtin.append_ #[22, 3] ty #[.slice (some ⟨g, 0, none⟩) i cap, .int .i64 ((n : Int) + 1 - (i : Int))]).run Tryz.prog w =
      .ok (.slice (some ⟨w.heap.size, 0, none⟩) (n + 1) G) (w.drew.alloc (.cells ROW 38)) := fun ty => by
    have h := Lib.run_append_grow_zeros w 22 3 ty 38 i0 _ .i64 .i64 Tryz.underlying22 Tryz.underlying3 hi0 hz0 (some ⟨g, 0, none⟩) i cap (xs.take (i * 2)) hold (n + 1 - i) (by omega) (by omega) (by omega) (by omega) (by rw [hzb]; omega) (by rw [hzb, hik]; exact growslice_fits hroom (by omega))
    rw [hik] at h
    rw [hkk, hROW, hG]
    exact h
  have hRs : ROW.size = G * 2 := by
    rw [hROW]
    simp [Builtin.zeroCells, Value.cells, hxl]
    omega
  have hRt : ROW.toList.take (i * 2) = xs.take (i * 2) := by
    rw [hROW]
    simp only [Array.toList_append, List.append_assoc]
    rw [List.take_append_of_le_length (by simp [hxl]; omega)]
    simp [List.take_take]
  clear hROW
  obtain ⟨W1, hW1⟩ : ∃ W1, W1 = (w.alloc (.cells ROW 38)).drew := ⟨_, rfl⟩
  have hrz : ∀ ty, (Builtin.append_ #[22, 3] ty #[.slice (some ⟨g, 0, none⟩) i cap, .int .i64 ((n : Int) + 1 - (i : Int))]).run Tryz.prog w = .ok (.slice (some ⟨w.heap.size, 0, none⟩) (n + 1) G) W1 := fun ty => by rw [hW1]; exact hrz ty
  have hN1 : W1.heap[w.heap.size]? = some (.cells ROW 38 (0, 0)) := by rw [hW1]; exact heap_alloc_new w _
  have hO1 : ∀ k, k < w.heap.size → W1.heap[k]? = w.heap[k]? := fun k hk => by rw [hW1]; exact (World.grownBy_alloc w _ none).block k hk (by simp)
  have hb0 : Below w.heap.size w W1 := by rw [hW1]; exact ((Below.refl _ w).alloc (Nat.le_refl _) _).drew
  have hcpA : ∀ ty dc, (Builtin.copy_ #[22, 22] ty #[.slice (some ⟨w.heap.size, i * 2, none⟩) (n + 1 - i) dc, .slice (some ⟨vb, 0, none⟩) 1 1]).run Tryz.prog W1 = .ok (goInt 1) (W1.setRow w.heap.size (ROW.toList.take (i * 2) ++ [x0, x1] ++ ROW.toList.drop (i * 2 + 2)).toArray) := fun ty dc => by
    have hmin : Nat.min 1 (n + 1 - i) = 1 := by simp only [Nat.min_def]; split <;> omega
    have := run_copy_rowk (P := Tryz.prog) W1 22 22 ty 38 2 w.heap.size (i * 2) (n + 1 - i) dc ⟨vb, 0, none⟩ 1 1 ROW 38 [x0, x1] Tryz.underlying22 size54 hN1 (by rw [hmin]; rfl) (fun j v h => by
      rw [Addr.add_lit, row_cell ((hO1 vb hvw).trans hv), Nat.zero_add]
      simpa using h) (by simp [hRs]; omega) h2
    rw [hmin] at this
    simpa using this
  obtain ⟨A, hA⟩ : ∃ A, A = ROW.toList.take (i * 2) ++ [x0, x1] ++ ROW.toList.drop (i * 2 + 2) := ⟨_, rfl⟩
  rw [← hA] at hcpA
  have hAl : A.length = G * 2 := by rw [hA]; simp [hRs]; omega
  have hAt : A.take ((i + 1) * 2) = xs.take (i * 2) ++ [x0, x1] := by
    rw [hA, List.take_append_of_le_length (by simp [hRs]; omega), List.take_of_length_le (by simp [hRs]; omega), hRt]
  clear hA
  obtain ⟨W2, hW2⟩ : ∃ W2, W2 = W1.setRow w.heap.size A.toArray := ⟨_, rfl⟩
  rw [← hW2] at hcpA
  have hN2 : W2.heap[w.heap.size]? = some (.cells A.toArray 38 (0, 0)) := by rw [hW2]; exact setRow_heap W1 _ ROW _ 38 _ hN1
  have hO2 : ∀ k, k < w.heap.size → W2.heap[k]? = w.heap[k]? := fun k hk => by rw [hW2, setRow_other _ _ _ _ (by omega)]; exact hO1 k hk
  have hb2 : Below w.heap.size w W2 := by rw [hW2]; exact below_setRow hb0 (Nat.le_refl _) _
  have hcpB : ∀ (W : World), W = W2.drew → ∀ ty dc sc, (Builtin.copy_ #[22, 22] ty #[.slice (some ⟨w.heap.size, (i + 1) * 2, none⟩) (n - i) dc, .slice (some ⟨g, i * 2, none⟩) (n - i) sc]).run Tryz.prog W = .ok (goInt ((n - i : Nat) : Int)) (W2.drew.setRow w.heap.size (A.take ((i + 1) * 2) ++ xs.drop (i * 2) ++ A.drop ((i + 1) * 2 + (xs.drop (i * 2)).length)).toArray) := fun W hW ty dc sc => by
    subst hW
    have hmin : Nat.min (n - i) (n - i) = n - i := by simp only [Nat.min_def]; split <;> omega
    have := run_copy_rowk (P := Tryz.prog) W2.drew 22 22 ty 38 2 w.heap.size ((i + 1) * 2) (n - i) dc ⟨g, i * 2, none⟩ (n - i) sc A.toArray 38 (xs.drop (i * 2)) Tryz.underlying22 size54 hN2 (by rw [hmin, List.length_drop, hxl]; omega) (fun j v h => by
      rw [Addr.add_lit, List.getElem?_drop] at *
      show W2.cell? _ = _
      rw [row_cell ((hO2 g hgw).trans hg), ← row_cell hg]
      exact hxc _ v h) (by simp [hAl, hxl]; omega) (fun v hv => h1 v (List.mem_of_mem_drop hv))
    rw [hmin] at this
    simpa using this
  have hlast : ∀ W : World, W = W2.drew.setRow w.heap.size (A.take ((i + 1) * 2) ++ xs.drop (i * 2) ++ A.drop ((i + 1) * 2 + (xs.drop (i * 2)).length)).toArray → ∃ (G' : Nat) (B : List Value), (Ending.returned (.slice (some ⟨w.heap.size, 0, none⟩) (n + 1) G)) = .returned (.slice (some ⟨w.heap.size, 0, none⟩) (n + 1) G') ∧ n + 1 ≤ G' ∧ G' ≤ maxLen ∧ W.heap[w.heap.size]? = some (.cells B.toArray 38 (0, 0)) ∧ B.length = G' * 2 ∧
        B.take ((n + 1) * 2) = xs.take (i * 2) ++ [x0, x1] ++ xs.drop (i * 2) ∧ Below w.heap.size w W := by
    intro W hW
    refine ⟨G, _, rfl, hGn, hGm, (by rw [hW]; exact setRow_heap W2.drew _ A.toArray _ 38 _ hN2), by simp [hAl, hxl]; omega, ?_, by rw [hW]; exact below_setRow hb2.drew (Nat.le_refl _) _⟩
    rw [hAt, List.take_append_of_le_length (by simp [hxl]; omega), List.take_of_length_le (by simp [hxl]; omega)]
  have hw1 : IntKind.i64.wrap ((i : Int) + 1) = (i : Int) + 1 := by rw [IntKind.wrap_i64]; omega
  have hb1 : (0 : Int) ≤ (i : Int) + 1 := by omega
  have hin : i ≤ n := by omega
  have htn : ((i : Int) + 1).toNat = i + 1 := by omega
  have hb3 : (i : Int) ≤ (n : Int) := by omega
  have hGi : ¬ (G = i) := by omega
  have hGim : ¬ (G = i + 1) := by omega
  have hci : ¬ (cap = i) := by omega
  subst hW2
  subst hW1
  clear hkk hik hold hG hxs hxc
  go_enter Tryz.func55, Tryz.ntmps55
  go_wp2_with (at_builtin; refine Lib.wpList_append_run _ rfl _ _ _ _ rfl _ _ rfl rfl _ _ (hrz _) ?_)
  go_region_law_o (refine step_copy_runI rfl _ _ 22 22 rfl (.slice (some ⟨w.heap.size, (i + 1) * 2, none⟩) (n - i) (G - (i + 1))) (.slice (some ⟨g, i * 2, none⟩) (n - i) (cap - i)) (by simp [Act.eval, Act.put]) (by simp [Act.eval, Act.put]) (hcpB _ rfl 3 (G - (i + 1)) (cap - i)) ?_)
  go_wp2
  go_ret
  have hl2 := hlast _ rfl
  rw [hAt] at hl2
  simpa [hxl] using hl2
set_option maxHeartbeats 4000000 in
/-- At the end. -/
theorem insert_end {w : World} {base vb n : Nat} {v : Value} {xs : List Value} (x0 x1 : Value) (hown : w.ownsRow base 38 2 v n xs) (hv : w.heap[vb]? = some (.cells #[x0, x1] 38 (0, 0))) (hne : v.ownBlock = none ∨ v.ownBlock ≠ some vb)
    (hb : base ≤ w.heap.size) (hn : n ≤ 2000) (h2 : ∀ v ∈ [x0, x1], v.oneCell' = true) :
    Calls Tryz.prog 55 #[v, .int .i64 n, .slice (some ⟨vb, 0, none⟩) 1 1] w fun e w' => ∃ v', e = .returned v' ∧ w'.ownsRow base 38 2 v' (n + 1) (xs ++ [x0, x1]) ∧ w.grownBy w' v.ownBlock := by
  obtain ⟨i0, hi0, hz0, hzs, hzb⟩ := info_parts info54
  have hform : ∃ ao cap, v = .slice ao n cap ∧ n ≤ cap := by
    rcases hown.2 with ⟨rfl, rfl⟩ | ⟨g, cap, cur, rfl, _, _, h, _⟩
    · exact ⟨none, 0, rfl, Nat.le_refl _⟩
    · exact ⟨_, cap, rfl, h⟩
  obtain ⟨ao, cap, rfl, hcap⟩ := hform
  by_cases hcn : cap = n
  · subst hcn
    go_enter Tryz.func55, Tryz.ntmps55
    go_wp2_with (first
      | (at_builtin; refine wpList_append_own _ rfl _ _ 22 rfl base 38 i0 _ 2 32 Tryz.underlying22 hi0 hz0 hzs hzb rfl (by decide) (.slice ao cap cap) cap xs rfl hown ⟨vb, 0, none⟩ 1 1 [x0, x1] rfl rfl (fun j u hj => by rw [Addr.add_lit, row_cell hv, Nat.zero_add]; simpa using hj) h2 (by unfold maxLen; omega) (by omega) hb (fun v' w' k1 k2 _ => ?_)))
    go_ret
    exact ⟨v', rfl, k1, k2⟩
  · go_enter Tryz.func55, Tryz.ntmps55
    go_wp2_with (first
      | (at_builtin; refine wpList_append_own _ rfl _ _ 22 rfl base 38 i0 _ 2 32 Tryz.underlying22 hi0 hz0 hzs hzb rfl (by decide) (.slice ao n cap) n xs rfl hown ⟨vb, 0, none⟩ 1 1 [x0, x1] rfl rfl (fun j u hj => by rw [Addr.add_lit, row_cell hv, Nat.zero_add]; simpa using hj) h2 (by unfold maxLen; omega) (by omega) hb (fun v' w' k1 k2 _ => ?_)))
    go_ret
    exact ⟨v', rfl, k1, k2⟩
end Go.Proofs.V.R11
