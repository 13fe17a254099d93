/- ScanTells: those whom the law calls. -/
import Derived.Test.YtnjfjjmlonalhaaDoorK22
import Derived.Test.YtnjfjjmlonalhaaDoorK25
import Derived.Test.YtnjfjjmlonalhaaDoorK36
import Derived.Test.YtnjfjjmlonalhaaDoorK28
import Derived.Laws.AppendOwnNone
import Derived.Laws.OwnMore
namespace Go.Proofs.V.T9
open Go Go.Proofs Go.RowKit Go.Lib Go.Proofs.V Go.Proofs.V.R9 Go.Proofs.W Go.Proofs.W.C
set_option linter.unusedVariables false
set_option linter.unusedSimpArgs false
set_option maxRecDepth 100000
abbrev En := Q9.En
abbrev Fi := Q9.Fi
abbrev tE : RT := .cons .str (.cons .bool (.cons .str (.cons (.int .i64) (.one (.int .i64)))))
abbrev tF : RT := .cons .str (.one .str)
abbrev tP : RT := .one .str
def cellsE (e : En) : List Value := [.string ⟨⟨e.1⟩⟩, .bool e.2.1, .string ⟨⟨e.2.2.1⟩⟩, .int .i64 e.2.2.2.1, .int .i64 e.2.2.2.2]
theorem kE : Cells tE 5 cellsE := ⟨rfl, fun x => rfl, fun x => rfl, fun x u hu => by simp [cellsE] at hu; rcases hu with rfl | rfl | rfl | rfl | rfl <;> rfl⟩
def cellsF (e : Fi) : List Value := [.string ⟨⟨e.1⟩⟩, .string ⟨⟨e.2⟩⟩]
theorem kF : Cells tF 2 cellsF := ⟨rfl, fun x => rfl, fun x => rfl, fun x u hu => by simp [cellsF] at hu; rcases hu with rfl | rfl <;> rfl⟩
theorem okS : C.Ok Q9.cfgS := ⟨mixed, Q9.extS⟩
theorem bool_of {w : World} {v : Value} {b : Bool} (h : CR .bool b w v) : v = .bool b := h
theorem int_of {w : World} {v : Value} {b : Int} (h : CR (.int .i64) b w v) : v = .int .i64 b := h
theorem oneCellsE (l : List En) : ∀ u ∈ l.flatMap cellsE, u.oneCell' = true := by
  intro u hu
  obtain ⟨e, _, hu⟩ := List.mem_flatMap.1 hu
  simp [cellsE] at hu
  rcases hu with rfl | rfl | rfl | rfl | rfl <;> rfl
theorem small_calls (w : World) : Calls Tryd.prog 9 #[] w fun e w' => e = .returned (.bool true) ∧ Below w.heap.size w w' :=
  (calls1 (cfg := Q9.cfgS) (n := 9) (vs := []) (d := .bool) (y := true) (F := Q9.law09_small) okS rfl Q9.s_law09_small Q9.small_ok args0 (fn := Tryd.f9) Tryd.func9 rfl (by kernel_rfl)).mono fun e w' ⟨u, h1, h2, h3⟩ => ⟨by rw [h1, bool_of h3], h2⟩
theorem few9_calls {w : World} {v0 : Value} {l : List En} {r : Bool} (s0 : SlR tE w v0 l) (hr : Q9.law09_Few l = some r) : Calls Tryd.prog 10 #[v0] w fun e w' => e = .returned (.bool r) ∧ Below w.heap.size w w' :=
  (calls1 (cfg := Q9.cfgS) (n := 10) (vs := [v0]) (d := .bool) (F := Q9.law09_Few) okS rfl Q9.s_law09_Few hr (args1 (c := .sl tE) rfl s0) (fn := Tryd.f10) Tryd.func10 rfl (by kernel_rfl)).mono fun e w' ⟨u, h1, h2, h3⟩ => ⟨by rw [h1, bool_of h3], h2⟩
theorem few4_calls {w : World} {v0 : Value} {t : List Fi} {r : Bool} (s0 : SlR tF w v0 t) (hr : Q9.law04_Few t = some r) : Calls Tryd.prog 11 #[v0] w fun e w' => e = .returned (.bool r) ∧ Below w.heap.size w w' :=
  (calls1 (cfg := Q9.cfgS) (n := 11) (vs := [v0]) (d := .bool) (F := Q9.law04_Few) okS rfl Q9.s_law04_Few hr (args1 (c := .sl tF) rfl s0) (fn := Tryd.f11) Tryd.func11 rfl (by kernel_rfl)).mono fun e w' ⟨u, h1, h2, h3⟩ => ⟨by rw [h1, bool_of h3], h2⟩
theorem refsame_calls {w : World} {v0 v1 : Value} {l : List En} {b : List En} {r : Bool} (s0 : SlR tE w v0 l) (s1 : SlR tE w v1 b) (hr : Q10.ref09_Same (l, b) = some r) : Calls Tryd.prog 15 #[v0, v1] w fun e w' => e = .returned (.bool r) ∧ Below w.heap.size w w' :=
  (calls1 (cfg := Q9.cfgS) (n := 15) (vs := [v0, v1]) (d := .bool) (F := Q10.ref09_Same) okS rfl Q9.s_ref09_Same hr (args2 (c1 := .sl tE) (c2 := .sl tE) rfl rfl s0 s1) (fn := Tryd.f15) Tryd.func15 rfl (by kernel_rfl)).mono fun e w' ⟨u, h1, h2, h3⟩ => ⟨by rw [h1, bool_of h3], h2⟩
theorem rows_calls {w : World} {v0 v1 : Value} {c : List (List UInt8)} {d : List (List UInt8)} {r : Bool} (s0 : SlR tP w v0 c) (s1 : SlR tP w v1 d) (hr : Q9.ref01_Rows (c, d) = some r) : Calls Tryd.prog 16 #[v0, v1] w fun e w' => e = .returned (.bool r) ∧ Below w.heap.size w w' :=
  (calls1 (cfg := Q9.cfgS) (n := 16) (vs := [v0, v1]) (d := .bool) (F := Q9.ref01_Rows) okS rfl Q9.s_ref01_Rows hr (args2 (c1 := .sl tP) (c2 := .sl tP) rfl rfl s0 s1) (fn := Tryd.f16) Tryd.func16 rfl (by kernel_rfl)).mono fun e w' ⟨u, h1, h2, h3⟩ => ⟨by rw [h1, bool_of h3], h2⟩
theorem right_calls {w : World} {v0 : Value} {l : List En} {r : Bool} (s0 : SlR tE w v0 l) (hr : Q9.scan_Right l = some r) : Calls Tryd.prog 17 #[v0] w fun e w' => e = .returned (.bool r) ∧ Below w.heap.size w w' :=
  (calls1 (cfg := Q9.cfgS) (n := 17) (vs := [v0]) (d := .bool) (F := Q9.scan_Right) okS rfl Q9.s_scan_Right hr (args1 (c := .sl tE) rfl s0) (fn := Tryd.f17) Tryd.func17 rfl (by kernel_rfl)).mono fun e w' ⟨u, h1, h2, h3⟩ => ⟨by rw [h1, bool_of h3], h2⟩
theorem refright_calls {w : World} {v0 : Value} {l : List En} {r : Bool} (s0 : SlR tE w v0 l) (hr : Q10.ref09_Right l = some r) : Calls Tryd.prog 18 #[v0] w fun e w' => e = .returned (.bool r) ∧ Below w.heap.size w w' :=
  (calls1 (cfg := Q9.cfgS) (n := 18) (vs := [v0]) (d := .bool) (F := Q10.ref09_Right) okS rfl Q9.s_ref09_Right hr (args1 (c := .sl tE) rfl s0) (fn := Tryd.f18) Tryd.func18 rfl (by kernel_rfl)).mono fun e w' ⟨u, h1, h2, h3⟩ => ⟨by rw [h1, bool_of h3], h2⟩
theorem find_calls {w : World} {v0 : Value} {l : List En} {p : List UInt8} {r : Int} (s0 : SlR tE w v0 l) (hr : Q9.scan_Find (l, p) = some r) : Calls Tryd.prog 19 #[v0, .string ⟨⟨p⟩⟩] w fun e w' => e = .returned (.int .i64 r) ∧ Below w.heap.size w w' :=
  (calls1 (cfg := Q9.cfgS) (n := 19) (vs := [v0, .string ⟨⟨p⟩⟩]) (d := .int .i64) (F := Q9.scan_Find) okS rfl Q9.s_scan_Find hr (args2 (c1 := .sl tE) (c2 := .str) rfl rfl s0 rfl) (fn := Tryd.f19) Tryd.func19 rfl (by kernel_rfl)).mono fun e w' ⟨u, h1, h2, h3⟩ => ⟨by rw [h1, int_of h3], h2⟩
theorem reffind_calls {w : World} {v0 : Value} {l : List En} {p : List UInt8} {r : Int} (s0 : SlR tE w v0 l) (hr : Q10.ref09_Find (l, p) = some r) : Calls Tryd.prog 20 #[v0, .string ⟨⟨p⟩⟩] w fun e w' => e = .returned (.int .i64 r) ∧ Below w.heap.size w w' :=
  (calls1 (cfg := Q9.cfgS) (n := 20) (vs := [v0, .string ⟨⟨p⟩⟩]) (d := .int .i64) (F := Q10.ref09_Find) okS rfl Q9.s_ref09_Find hr (args2 (c1 := .sl tE) (c2 := .str) rfl rfl s0 rfl) (fn := Tryd.f20) Tryd.func20 rfl (by kernel_rfl)).mono fun e w' ⟨u, h1, h2, h3⟩ => ⟨by rw [h1, int_of h3], h2⟩
theorem sameT_calls {w : World} {v0 v1 : Value} {t : List Fi} {u : List Fi} {r : Bool} (s0 : SlR tF w v0 t) (s1 : SlR tF w v1 u) (hr : Q10.ref04_Same (t, u) = some r) : Calls Tryd.prog 21 #[v0, v1] w fun e w' => e = .returned (.bool r) ∧ Below w.heap.size w w' :=
  (calls1 (cfg := Q9.cfgS) (n := 21) (vs := [v0, v1]) (d := .bool) (F := Q10.ref04_Same) okS rfl Q9.s_ref04_Same hr (args2 (c1 := .sl tF) (c2 := .sl tF) rfl rfl s0 s1) (fn := Tryd.f21) Tryd.func21 rfl (by kernel_rfl)).mono fun e w' ⟨u, h1, h2, h3⟩ => ⟨by rw [h1, bool_of h3], h2⟩
theorem same_calls {w : World} {v0 v1 : Value} {l : List En} {b : List En} {r : Bool} (s0 : SlR tE w v0 l) (s1 : SlR tE w v1 b) (hr : Q9.scan_Same (l, b) = some r) : Calls Tryd.prog 24 #[v0, v1] w fun e w' => e = .returned (.bool r) ∧ Below w.heap.size w w' :=
  (calls1 (cfg := Q9.cfgS) (n := 24) (vs := [v0, v1]) (d := .bool) (F := Q9.scan_Same) okS rfl Q9.s_scan_Same hr (args2 (c1 := .sl tE) (c2 := .sl tE) rfl rfl s0 s1) (fn := Tryd.f24) Tryd.func24 rfl (by kernel_rfl)).mono fun e w' ⟨u, h1, h2, h3⟩ => ⟨by rw [h1, bool_of h3], h2⟩
theorem copy_calls {w : World} {v : Value} {l : List En} {y : List En} (s : SlR tE w v l) (hr : Q9.scan_Copy l = some y) : Calls Tryd.prog 14 #[v] w fun e w' => ∃ v', e = .returned v' ∧ Below w.heap.size w w' ∧ SlR tE w' v' y ∧ Wr w' w.heap.size y.length 5 v' :=
  (callsF1 (cfg := Q9.cfgS) (n := 14) (vs := [v]) (r := tE) (F := Q9.scan_Copy) okS rfl Q9.s_scan_Copy hr (args1 (c := .sl tE) rfl s) (fn := Tryd.f14) Tryd.func14 rfl (by kernel_rfl))
theorem tree_calls {w : World} {v : Value} {l : List En} {y : List Fi} (s : SlR tE w v l) (hr : Q9.scan_Tree l = some y) : Calls Tryd.prog 22 #[v] w fun e w' => ∃ v', e = .returned v' ∧ Below w.heap.size w w' ∧ SlR tF w' v' y ∧ Wr w' w.heap.size y.length 2 v' :=
  (callsF1 (cfg := Q9.cfgS) (n := 22) (vs := [v]) (r := tF) (F := Q9.scan_Tree) okS rfl Q9.s_scan_Tree hr (args1 (c := .sl tE) rfl s) (fn := Tryd.f22) Tryd.func22 rfl (by kernel_rfl))
theorem reftree_calls {w : World} {v : Value} {l : List En} {y : List Fi} (s : SlR tE w v l) (hr : Q10.ref09_Tree l = some y) : Calls Tryd.prog 23 #[v] w fun e w' => ∃ v', e = .returned v' ∧ Below w.heap.size w w' ∧ SlR tF w' v' y ∧ Wr w' w.heap.size y.length 2 v' :=
  (callsF1 (cfg := Q9.cfgS) (n := 23) (vs := [v]) (r := tF) (F := Q10.ref09_Tree) okS rfl Q9.s_ref09_Tree hr (args1 (c := .sl tE) rfl s) (fn := Tryd.f23) Tryd.func23 rfl (by kernel_rfl))
theorem scan_calls {w : World} {v0 v1 : Value} {l : List En} {t : List Fi} {n : Int} {y : List En × (List (List UInt8) × Int)} (s0 : SlR tE w v0 l) (s1 : SlR tF w v1 t) (hr : Q9.scan_Scan (l, (t, n)) = some y) :
    Calls Tryd.prog 12 #[v0, v1, .int .i64 n] w fun e w' => ∃ u1 u2, e = .returned (.tuple #[u1, u2, .int .i64 y.2.2]) ∧ Below w.heap.size w w' ∧ SlR tE w' u1 y.1 ∧ Wr w' w.heap.size y.1.length 5 u1 ∧ SlR tP w' u2 y.2.1 :=
  (callsF3 (cfg := Q9.cfgS) (n := 12) (vs := [v0, v1, .int .i64 n]) (r := tE) (d2 := .sl tP) (d3 := .int .i64) (F := Q9.scan_Scan) okS rfl rfl rfl Q9.s_scan_ScanF hr (args3 (c1 := .sl tE) (c2 := .sl tF) (c3 := .int .i64) rfl rfl rfl s0 s1 rfl) (fn := Tryd.f12) Tryd.func12 rfl (by kernel_rfl)).mono fun e w' ⟨u1, u2, u3, h1, h2, h3, h4, h5, h6⟩ => ⟨u1, u2, by rw [h1, int_of h6], h2, h3, h4, h5⟩
end Go.Proofs.V.T9
