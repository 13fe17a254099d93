/- StateTells, walked: where an argument is not small. -/
import Derived.Test.YtdgihbbekacgcaaGreatDoorK40
import Derived.Laws.Rows
import Derived.WalkKit
import Derived.KernelRfl
namespace Go.Proofs.V.T17
open Go Go.Proofs Go.RowKit Go.Lib Go.Proofs.V Go.Proofs.V.L17 Go.Proofs.W Go.Proofs.W.C
set_option linter.unusedVariables false
set_option linter.unusedSimpArgs false
set_option maxRecDepth 100000
/-- What a block holds. -/
def Bx (W : World) (b : Nat) (A : Array Value) : Prop := W.heap[b]? = some (.cells A 30 (0, 0))
theorem Bx.below {W W' : World} {b : Nat} {A : Array Value} (h : Bx W b A) (hb : Below W.heap.size W W') : Bx W' b A := by
  have hlt : b < W.heap.size := (Array.getElem?_eq_some_iff.1 h).1
  exact (hb.block b hlt).trans h
theorem Bx.alloc {W : World} {b : Nat} {A : Array Value} (h : Bx W b A) (o : Obj) : Bx (W.alloc o) b A := h.below ((Below.refl _ W).alloc (Nat.le_refl _) _)
theorem bx_new (W : World) (A : Array Value) : Bx (W.alloc (.cells A 30)) W.heap.size A := by
  show (W.heap.push _)[W.heap.size]? = _
  simp
theorem info30 : (Tryz.prog.info? 30).map (·.size) = some 18 := by kernel_rfl
theorem st_agg {w : World} {v : Value} {s : St} (h : StR w v s) : ∃ A : Array Value, v = .agg A ∧ A.size = 18 := by
  obtain ⟨v1, v2, v3, v4, v5, v6, v7, rfl, _⟩ := h
  exact ⟨_, rfl, rfl⟩
theorem StR.below {w w' : World} {v : Value} {s : St} (h : StR w v s) (hb : Below w.heap.size w w') : StR w' v s := by
  obtain ⟨v1, v2, v3, v4, v5, v6, v7, rfl, h⟩ := h
  exact ⟨v1, v2, v3, v4, v5, v6, v7, rfl, h.below hb⟩
set_option maxHeartbeats 4000000 in
theorem tells_false_false {w : World} {v1 v2 : Value} {s t : St} {n : Int} (hs : StR w v1 s) (ht : StR w v2 t) (hfs : Q17.law17_Few s = some false) (hft : Q17.law17_Few t = some false) :
    Calls Tryz.prog 3 #[v1, v2, .int .i64 n] w fun e w' => e = .returned (.bool true) ∧ Below w.heap.size w w' := by
  obtain ⟨A, rfl, hA⟩ := st_agg hs
  obtain ⟨B, rfl, hB⟩ := st_agg ht
  have B3 := bx_new w A
  have B4 := bx_new (w.alloc (.cells A 30)) B
  have B3 := B3.alloc (.cells B 30)
  have e4 : (w.alloc (.cells A 30)).heap.size = w.heap.size + 1 := by simp
  rw [e4] at B4
  clear e4
  have iA : (Tryz.prog.info? 30).map (·.size) = some A.size := by rw [hA, info30]
  have iB : (Tryz.prog.info? 30).map (·.size) = some B.size := by rw [hB, info30]
  have m1 : True := trivial
  have m2 : True := trivial
  have hw : Below w.heap.size w ((w.alloc (.cells A 30)).alloc (.cells B 30)) := ((Below.refl _ w).alloc (Nat.le_refl _) _).alloc (by simp) _
  have R1 := hs.below hw
  have R2 := ht.below hw
  clear hs ht hA hB
  go_enter Tryz.func3, Tryz.ntmps3
  go_wp2_with (first
    | (refine wpList_load_row rfl 30 (.tmp 3) rfl w.heap.size rfl 30 A (0, 0) _ B3 Tryz.underlying30 rfl iA ?_)
    | (refine wpList_load_row rfl 30 (.tmp 4) rfl (w.heap.size + 1) rfl 30 B (0, 0) _ B4 Tryz.underlying30 rfl iB ?_)
    | (go_at_call 5; refine (small_calls _).mono ?_; rintro e w0 ⟨rfl, hb0⟩; have B3 := B3.below hb0; have B4 := B4.below hb0; have R1 := R1.below hb0; have R2 := R2.below hb0; have hw := hw.trans (hb0.mono hw.size))
    | (go_at_call 6; clear m1; refine (few_calls R1 hfs).mono ?_; rintro e w1 ⟨rfl, hb1⟩; have B3 := B3.below hb1; have B4 := B4.below hb1; have R1 := R1.below hb1; have R2 := R2.below hb1; have hw := hw.trans (hb1.mono hw.size))
    | (go_at_call 6; clear m2; refine (few_calls R2 hft).mono ?_; rintro e w2 ⟨rfl, hb2⟩; have B3 := B3.below hb2; have B4 := B4.below hb2; have R1 := R1.below hb2; have R2 := R2.below hb2; have hw := hw.trans (hb2.mono hw.size)))
  go_ret
  exact ⟨rfl, hw⟩
set_option maxHeartbeats 4000000 in
theorem tells_false_true {w : World} {v1 v2 : Value} {s t : St} {n : Int} (hs : StR w v1 s) (ht : StR w v2 t) (hfs : Q17.law17_Few s = some false) (hft : Q17.law17_Few t = some true) :
    Calls Tryz.prog 3 #[v1, v2, .int .i64 n] w fun e w' => e = .returned (.bool true) ∧ Below w.heap.size w w' := by
  obtain ⟨A, rfl, hA⟩ := st_agg hs
  obtain ⟨B, rfl, hB⟩ := st_agg ht
  have B3 := bx_new w A
  have B4 := bx_new (w.alloc (.cells A 30)) B
  have B3 := B3.alloc (.cells B 30)
  have e4 : (w.alloc (.cells A 30)).heap.size = w.heap.size + 1 := by simp
  rw [e4] at B4
  clear e4
  have iA : (Tryz.prog.info? 30).map (·.size) = some A.size := by rw [hA, info30]
  have iB : (Tryz.prog.info? 30).map (·.size) = some B.size := by rw [hB, info30]
  have m1 : True := trivial
  have m2 : True := trivial
  have hw : Below w.heap.size w ((w.alloc (.cells A 30)).alloc (.cells B 30)) := ((Below.refl _ w).alloc (Nat.le_refl _) _).alloc (by simp) _
  have R1 := hs.below hw
  have R2 := ht.below hw
  clear hs ht hA hB
  go_enter Tryz.func3, Tryz.ntmps3
  go_wp2_with (first
    | (refine wpList_load_row rfl 30 (.tmp 3) rfl w.heap.size rfl 30 A (0, 0) _ B3 Tryz.underlying30 rfl iA ?_)
    | (refine wpList_load_row rfl 30 (.tmp 4) rfl (w.heap.size + 1) rfl 30 B (0, 0) _ B4 Tryz.underlying30 rfl iB ?_)
    | (go_at_call 5; refine (small_calls _).mono ?_; rintro e w0 ⟨rfl, hb0⟩; have B3 := B3.below hb0; have B4 := B4.below hb0; have R1 := R1.below hb0; have R2 := R2.below hb0; have hw := hw.trans (hb0.mono hw.size))
    | (go_at_call 6; clear m1; refine (few_calls R1 hfs).mono ?_; rintro e w1 ⟨rfl, hb1⟩; have B3 := B3.below hb1; have B4 := B4.below hb1; have R1 := R1.below hb1; have R2 := R2.below hb1; have hw := hw.trans (hb1.mono hw.size))
    | (go_at_call 6; clear m2; refine (few_calls R2 hft).mono ?_; rintro e w2 ⟨rfl, hb2⟩; have B3 := B3.below hb2; have B4 := B4.below hb2; have R1 := R1.below hb2; have R2 := R2.below hb2; have hw := hw.trans (hb2.mono hw.size)))
  go_ret
  exact ⟨rfl, hw⟩
set_option maxHeartbeats 4000000 in
theorem tells_true_false {w : World} {v1 v2 : Value} {s t : St} {n : Int} (hs : StR w v1 s) (ht : StR w v2 t) (hfs : Q17.law17_Few s = some true) (hft : Q17.law17_Few t = some false) :
    Calls Tryz.prog 3 #[v1, v2, .int .i64 n] w fun e w' => e = .returned (.bool true) ∧ Below w.heap.size w w' := by
  obtain ⟨A, rfl, hA⟩ := st_agg hs
  obtain ⟨B, rfl, hB⟩ := st_agg ht
  have B3 := bx_new w A
  have B4 := bx_new (w.alloc (.cells A 30)) B
  have B3 := B3.alloc (.cells B 30)
  have e4 : (w.alloc (.cells A 30)).heap.size = w.heap.size + 1 := by simp
  rw [e4] at B4
  clear e4
  have iA : (Tryz.prog.info? 30).map (·.size) = some A.size := by rw [hA, info30]
  have iB : (Tryz.prog.info? 30).map (·.size) = some B.size := by rw [hB, info30]
  have m1 : True := trivial
  have m2 : True := trivial
  have hw : Below w.heap.size w ((w.alloc (.cells A 30)).alloc (.cells B 30)) := ((Below.refl _ w).alloc (Nat.le_refl _) _).alloc (by simp) _
  have R1 := hs.below hw
  have R2 := ht.below hw
  clear hs ht hA hB
  go_enter Tryz.func3, Tryz.ntmps3
  go_wp2_with (first
    | (refine wpList_load_row rfl 30 (.tmp 3) rfl w.heap.size rfl 30 A (0, 0) _ B3 Tryz.underlying30 rfl iA ?_)
    | (refine wpList_load_row rfl 30 (.tmp 4) rfl (w.heap.size + 1) rfl 30 B (0, 0) _ B4 Tryz.underlying30 rfl iB ?_)
    | (go_at_call 5; refine (small_calls _).mono ?_; rintro e w0 ⟨rfl, hb0⟩; have B3 := B3.below hb0; have B4 := B4.below hb0; have R1 := R1.below hb0; have R2 := R2.below hb0; have hw := hw.trans (hb0.mono hw.size))
    | (go_at_call 6; clear m1; refine (few_calls R1 hfs).mono ?_; rintro e w1 ⟨rfl, hb1⟩; have B3 := B3.below hb1; have B4 := B4.below hb1; have R1 := R1.below hb1; have R2 := R2.below hb1; have hw := hw.trans (hb1.mono hw.size))
    | (go_at_call 6; clear m2; refine (few_calls R2 hft).mono ?_; rintro e w2 ⟨rfl, hb2⟩; have B3 := B3.below hb2; have B4 := B4.below hb2; have R1 := R1.below hb2; have R2 := R2.below hb2; have hw := hw.trans (hb2.mono hw.size)))
  go_ret
  exact ⟨rfl, hw⟩
end Go.Proofs.V.T17
