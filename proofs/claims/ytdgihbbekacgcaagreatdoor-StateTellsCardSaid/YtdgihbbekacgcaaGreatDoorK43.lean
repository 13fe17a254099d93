/- StateTells, walked: small arguments. -/
import Derived.Test.YtdgihbbekacgcaaGreatDoorK41
import Derived.Test.YtdgihbbekacgcaaGreatDoorK42
namespace Go.Proofs.V.T17
open Go Go.Proofs Go.RowKit Go.Lib Go.Proofs.V Go.Proofs.V.L17 Go.Proofs.W Go.Proofs.W.C
set_option linter.unusedVariables false
set_option linter.unusedSimpArgs false
set_option maxRecDepth 100000
theorem copy2_calls {w : World} {v : Value} {s : St} (h : StR w v s) (hm : Q17.Mild s) : Calls Tryz.prog 7 #[v] w fun e w' => ∃ (C : Array Value) (o1 o2 o3 o4 : Option Addr) (k1 k2 k3 k4 : Nat), e = .returned (.agg C) ∧ Below w.heap.size w w' ∧ StR w' (.agg C) s ∧ C.size = 18 ∧ C.all (·.oneCell') = true ∧
    (C[1]? = some (.slice o1 s.2.1.length k1) ∧ Wr w' w.heap.size s.2.1.length 2 (.slice o1 s.2.1.length k1)) ∧ (C[7]? = some (.slice o2 s.2.2.2.2.2.2.2.1.length k2) ∧ Wr w' w.heap.size s.2.2.2.2.2.2.2.1.length 1 (.slice o2 s.2.2.2.2.2.2.2.1.length k2)) ∧
    (C[14]? = some (.slice o3 s.2.2.2.2.2.2.2.2.2.2.2.2.2.2.1.length k3) ∧ Wr w' w.heap.size s.2.2.2.2.2.2.2.2.2.2.2.2.2.2.1.length 5 (.slice o3 s.2.2.2.2.2.2.2.2.2.2.2.2.2.2.1.length k3)) ∧ (C[16]? = some (.slice o4 s.2.2.2.2.2.2.2.2.2.2.2.2.2.2.2.2.1.length k4) ∧ Wr w' w.heap.size s.2.2.2.2.2.2.2.2.2.2.2.2.2.2.2.2.1.length 2 (.slice o4 s.2.2.2.2.2.2.2.2.2.2.2.2.2.2.2.2.1.length k4)) := by
  refine (copy_calls h hm).mono ?_
  rintro e w' ⟨c1, c2, c3, c4, c5, c6, c7, rfl, hb, hr, w1, w2, w3, w4⟩
  have form : ∀ {r : RT} {l : List (Tr r)} {u : Value}, SlR r w' u l → ∃ o k, u = .slice o l.length k := by
    rintro r l u ⟨nl, h0, h1⟩
    have hl : (l.map (encR r)).length = l.length := List.length_map ..
    generalize l.map (encR r) = rowz at h1 hl
    rw [← hl]
    cases h1 with
    | nil => exact ⟨none, 0, rfl⟩
    | slice => exact ⟨_, _, rfl⟩
  have hst : StR w' (stC s c1 c2 c3 c4 c5 c6 c7) s := ⟨c1, c2, c3, c4, c5, c6, c7, rfl, hr⟩
  obtain ⟨o1, k1, rfl⟩ := form hr.tr
  obtain ⟨o5, k5, rfl⟩ := form hr.ar
  obtain ⟨o2, k2, rfl⟩ := form hr.ow
  obtain ⟨o6, k6, rfl⟩ := form hr.sh
  obtain ⟨o3, k3, rfl⟩ := form hr.th
  obtain ⟨o7, k7, rfl⟩ := form hr.co
  obtain ⟨o4, k4, rfl⟩ := form hr.wa
  exact ⟨_, o1, o2, o3, o4, k1, k2, k3, k4, rfl, hb, hst, rfl, by
    rw [Array.all_eq_true_iff_forall_mem]
    intro v hv
    simp only [List.mem_toArray, List.mem_cons, List.not_mem_nil, or_false] at hv
    rcases hv with rfl | rfl | rfl | rfl | rfl | rfl | rfl | rfl | rfl | rfl | rfl | rfl | rfl | rfl | rfl | rfl | rfl | rfl <;> rfl, ⟨rfl, w1⟩, ⟨rfl, w2⟩, ⟨rfl, w3⟩, ⟨rfl, w4⟩⟩
theorem Bx.set {W : World} {b : Nat} {A : Array Value} (h : Bx W b A) {a : Addr} (hne : a.block ≠ b) (u : Value) : Bx (W.setCell a u) b A := by
  unfold Bx
  rw [Below.heap_setCell W a u b (fun e => hne e.symm)]
  exact h
theorem Bx.cell {W : World} {b : Nat} {A : Array Value} (h : Bx W b A) {j : Nat} {v : Value} (hv : A[j]? = some v) : W.cell? ⟨b, j, none⟩ = some v := by
  rw [row_at h j, hv]
/-- What stays while the copy is written. -/
structure Kp (w : World) (A B C : Array Value) (lo hi : Nat) (wr : World) : Prop where
  a : Bx wr w.heap.size A
  b : Bx wr (w.heap.size + 1) B
  c : Bx wr hi C
  bw : Below w.heap.size w wr
  lo : w.heap.size + 2 ≤ lo
theorem Kp.set {w wr : World} {A B C : Array Value} {lo hi : Nat} (h : Kp w A B C lo hi wr) {a : Addr} (h1 : lo ≤ a.block) (h2 : a.block < hi) (u : Value) : Kp w A B C lo hi (wr.setCell a u) :=
  ⟨h.a.set (by have := h.lo; omega) u, h.b.set (by have := h.lo; omega) u, h.c.set (by omega) u, h.bw.setCell (by have := h.lo; omega) u, h.lo⟩
theorem wr_hi {wr : World} {base n sz : Nat} {o : Option Addr} {k : Nat} (h : Wr wr base n sz (.slice o n k)) : ∀ b, o = some ⟨b, 0, none⟩ → 0 < n → base ≤ b ∧ b < wr.heap.size := by
  intro b e h0
  rcases h with h | ⟨b', cap, vs, ty, e', hb, hh, _⟩
  · omega
  · subst e
    simp only [Value.slice.injEq, Option.some.injEq, Addr.mk.injEq] at e'
    obtain ⟨⟨rfl, _⟩, _⟩ := e'
    exact ⟨hb, (Array.getElem?_eq_some_iff.1 hh).1⟩
/-- A state, laid into a new box. -/
theorem set_row {w3 : World} {C : Array Value} {Z : Array Value} : Bx ((w3.alloc (.cells Z 30)).setRow w3.heap.size C) w3.heap.size C ∧ Below w3.heap.size w3 ((w3.alloc (.cells Z 30)).setRow w3.heap.size C) := by
  have hz : (w3.alloc (.cells Z 30)).heap[w3.heap.size]? = some (.cells Z 30 (0, 0)) := by
    show (w3.heap.push _)[w3.heap.size]? = _
    simp
  have h2 : Below w3.heap.size w3 (w3.alloc (.cells Z 30)) := (Below.refl _ w3).alloc (Nat.le_refl _) _
  refine ⟨?_, ?_⟩
  · unfold Bx World.setRow
    simp only [Array.getElem?_modify, hz, if_true]
    rfl
  · refine ⟨h2.os, h2.tape, h2.output, ?_, fun k hk => ?_⟩
    · unfold World.setRow
      simp
    · rw [← h2.block k hk]
      unfold World.setRow
      simp only [Array.getElem?_modify]
      rw [if_neg (by omega)]
theorem wpList_storeNew {ops : Array Oper} {rest : List Oper} {o : Oper} {a : Act} {w3 : World} {Z : Array Value} {Q : Exit → Act → World → Prop} (hgd : o.guard = none) (x y : Operand) (ho : o.op = .store 30 x y) (C : Array Value) (hx : a.eval x = .pointer (some ⟨w3.heap.size, 0, none⟩)) (hy : a.eval y = .agg C)
    (hC : C.size = 18) (h1 : C.all (·.oneCell') = true) (h : ∀ w4, Bx w4 w3.heap.size C → Below w3.heap.size w3 w4 → wpList Tryz.prog ops Q rest (a.put o.dst undef) w4) (hZ : Z.size = 18 := by rfl) : wpList Tryz.prog ops Q (o :: rest) a (w3.alloc (.cells Z 30)) :=
  wpList_store_row hgd 30 x y ho w3.heap.size C hx hy 30 Z (heap_alloc_new w3 _) (by rw [hC, info30]) (by rw [hC, hZ]) h1 (h _ set_row.1 set_row.2)
theorem lit122 (t : Array Value) (h : t.size = 122) : ∃ f : Nat → Value, (∀ i, f i = t.getD i Go.undef) ∧ t = #[f 0, f 1, f 2, f 3, f 4, f 5, f 6, f 7, f 8, f 9, f 10, f 11, f 12, f 13, f 14, f 15, f 16, f 17, f 18, f 19, f 20, f 21, f 22, f 23, f 24, f 25, f 26, f 27, f 28, f 29, f 30, f 31, f 32, f 33, f 34, f 35, f 36, f 37, f 38, f 39, f 40, f 41, f 42, f 43, f 44, f 45, f 46, f 47, f 48, f 49, f 50, f 51, f 52, f 53, f 54, f 55, f 56, f 57, f 58, f 59, f 60, f 61, f 62, f 63, f 64, f 65, f 66, f 67, f 68, f 69, f 70, f 71, f 72, f 73, f 74, f 75, f 76, f 77, f 78, f 79, f 80, f 81, f 82, f 83, f 84, f 85, f 86, f 87, f 88, f 89, f 90, f 91, f 92, f 93, f 94, f 95, f 96, f 97, f 98, f 99, f 100, f 101, f 102, f 103, f 104, f 105, f 106, f 107, f 108, f 109, f 110, f 111, f 112, f 113, f 114, f 115, f 116, f 117, f 118, f 119, f 120, f 121] := by
  refine ⟨fun i => t.getD i Go.undef, fun i => rfl, ?_⟩
  have key : ∀ (l : List Value) (n : Nat), l.length = n → l = (List.range n).map fun i => l.toArray.getD i Go.undef := by
    intro l n hl
    apply List.ext_getElem
    · simp [hl]
    · intro k h1 h2
      simp [Array.getD, hl ▸ h1, h1]
  obtain ⟨l⟩ := t
  have := key l 122 h
  exact congrArg List.toArray this
abbrev newS (n : Int) : St := (bitsI .and .i64 n 1, [], [], 0, 0, 0, 0, [], [], false, 0, 0, 0, 0, [], [], [], false)
def newA (n : Int) : List AV := [.at (.int .i64 (bitsI .and .i64 n 1)), .slice [] true .full, .slice [] true .full, .at (.int .i64 0), .at (.int .i64 0), .at (.int .i64 0), .at (.int .i64 0), .slice [] true .full, .slice [] true .full, .at (.bool false), .at (.int .i64 0), .at (.int .i64 0), .at (.int .i64 0), .at (.int .i64 0), .slice [] true .full, .slice [] true .full, .slice [] true .full, .at (.bool false)]
theorem new10 (n : Int) : callQ cfgL (evK cfgL) 10 [I64 n] = some (.agg (newA n)) := callQ_mono (evN_leK cfgL 20) (by kernel_rfl)
theorem new11 (n : Int) : callQ cfgL (evK cfgL) 11 [I64 n] = some (.agg (newA n)) := callQ_mono (evN_leK cfgL 20) (by kernel_rfl)
theorem newA_R (n : Int) : WRL Ono g0 (stW (newS n)) (newA n) := ⟨.int _ _ _, .sl _ _ _ _ _ _ ⟨trivial, fun _ => rfl⟩ rfl (fun _ e => by cases e), .sl _ _ _ _ _ _ ⟨trivial, fun _ => rfl⟩ rfl (fun _ e => by cases e), .int _ _ _, .int _ _ _, .int _ _ _, .int _ _ _, .sl _ _ _ _ _ _ ⟨trivial, fun _ => rfl⟩ rfl (fun _ e => by cases e), .sl _ _ _ _ _ _ ⟨trivial, fun _ => rfl⟩ rfl (fun _ e => by cases e), .bool _ _, .int _ _ _, .int _ _ _, .int _ _ _, .int _ _ _, .sl _ _ _ _ _ _ ⟨trivial, fun _ => rfl⟩ rfl (fun _ e => by cases e), .sl _ _ _ _ _ _ ⟨trivial, fun _ => rfl⟩ rfl (fun _ e => by cases e), .sl _ _ _ _ _ _ ⟨trivial, fun _ => rfl⟩ rfl (fun _ e => by cases e), .bool _ _, trivial⟩
/-- A region of code, by its number. -/
def findR (k : Nat) : Nat → Code → Option (Array Oper)
  | 0, _ => none
  | f + 1, c => match c with
    | .region id ops _ => if id = k then some ops else none
    | .seq a b => (findR k f a).orElse fun _ => findR k f b
    | .cond _ a b => (findR k f a).orElse fun _ => findR k f b
    | .block _ b => findR k f b
    | .loop b => findR k f b
    | .scope b => findR k f b
    | _ => none
noncomputable def R7 : Array Oper := ((Tryz.f3.body.bind fun c => findR 7 100 c)).getD #[]
noncomputable def R25 : Array Oper := ((Tryz.f3.body.bind fun c => findR 25 100 c)).getD #[]
/-- What the region that compares comes to. -/
theorem region7 {s t : St} {n : Int} {rs : Bool} {tm : Array Value} (h2 : tm.getD 2 Go.undef = .int .i64 n) {ntr nar now nsh nth nco nwa mtr mar mow msh mth mco mwa ctr car cow csh cth cco cwa : Bool} (wn : WRL Ono g0 (stW s) (stA s ntr nar now nsh nth nco nwa)) (wm : WRL Ono g0 (stW t) (stA t mtr mar mow msh mth mco mwa)) (wc : WRL Ono g0 (stW s) (stA s ctr car cow csh cth cco cwa)) (self : Q17.ref17_Same (Q17.pr s s) = some true) (hrs : Q17.ref17_Same (Q17.pr s t) = some rs) (hrs' : Q17.state_Same (Q17.pr s t) = some rs) (hm : Q17.Mild (newS n)) :
    Ow cfgL true (dsOf cfgL R7 true) R7 R7.toList 0 { n := 122, t := fun i => if i = 3 then .ref (stA s ntr nar now nsh nth nco nwa) 0 else if i = 4 then .ref (stA t mtr mar mow msh mth mco mwa) 0 else if i = 10 then .ref (stA s ctr car cow csh cth cco cwa) 0 else .at (tm.getD i Go.undef), c := 0, al := fun _ => false, H := [], m := fun _ => false } fun F' => F'.t 11 = BO true := by
  have k1 : callQ cfgL (evK cfgL) 8 [.agg (stA s ctr car cow csh cth cco cwa), .agg (stA s ntr nar now nsh nth nco nwa)] = some (BO true) := callB Q17.s_ref17_Same self ⟨[.agg (stW s), .agg (stW s)], rfl, wr_agg wc, wr_agg wn, trivial⟩
  have k2 : callQ cfgL (evK cfgL) 9 [.agg (stA s ntr nar now nsh nth nco nwa), .agg (stA t mtr mar mow msh mth mco mwa)] = some (BO rs) := callB Q17.s_state_Same hrs' ⟨[.agg (stW s), .agg (stW t)], rfl, wr_agg wn, wr_agg wm, trivial⟩
  have k3 : callQ cfgL (evK cfgL) 8 [.agg (stA s ntr nar now nsh nth nco nwa), .agg (stA t mtr mar mow msh mth mco mwa)] = some (BO rs) := callB Q17.s_ref17_Same hrs ⟨[.agg (stW s), .agg (stW t)], rfl, wr_agg wn, wr_agg wm, trivial⟩
  have k4 : callQ cfgL (evK cfgL) 8 [.agg (newA n), .agg (newA n)] = some (BO true) := callB Q17.s_ref17_Same (Q17.same_self hm) ⟨[.agg (stW (newS n)), .agg (stW (newS n))], rfl, wr_agg (newA_R n), wr_agg (newA_R n), trivial⟩
  have k5 := new10 n
  have k6 := new11 n
  cases rs
  all_goals
    refine ow_k 2 10 (by kernel_rfl) ?_
    refine ow_callDG (k := 8) (first := []) (captured := []) (xs := [.agg (stA s ctr car cow csh cth cco cwa), .agg (stA s ntr nar now nsh nth nco nwa)]) (r := BO true) (by kernel_rfl) (by kernel_rfl) (by kernel_rfl) (by kernel_rfl) (by kernel_rfl) (by kernel_rfl) k1 (by kernel_rfl) (by kernel_rfl) ?_
    refine ow_k 3 10 (by kernel_rfl) ?_
    refine ow_callDG (k := 9) (first := []) (captured := []) (xs := [.agg (stA s ntr nar now nsh nth nco nwa), .agg (stA t mtr mar mow msh mth mco mwa)]) (by kernel_rfl) (by kernel_rfl) (by kernel_rfl) (by kernel_rfl) (by kernel_rfl) (by kernel_rfl) k2 (by kernel_rfl) (by kernel_rfl) ?_
    refine ow_k 2 10 (by kernel_rfl) ?_
    refine ow_callDG (k := 8) (first := []) (captured := []) (xs := [.agg (stA s ntr nar now nsh nth nco nwa), .agg (stA t mtr mar mow msh mth mco mwa)]) (by kernel_rfl) (by kernel_rfl) (by kernel_rfl) (by kernel_rfl) (by kernel_rfl) (by kernel_rfl) k3 (by kernel_rfl) (by kernel_rfl) ?_
    refine ow_k 4 10 (by kernel_rfl) ?_
    refine ow_callDG (k := 10) (first := []) (captured := []) (xs := [.at (tm.getD 2 Go.undef)]) (r := .agg (newA n)) (by kernel_rfl) (by kernel_rfl) (by kernel_rfl) (by rw [h2]; kernel_rfl) (by kernel_rfl) (by kernel_rfl) (by rw [h2]; exact k5) (by kernel_rfl) (by kernel_rfl) ?_
    refine ow_k 1 10 (by kernel_rfl) ?_
    refine ow_callDG (k := 11) (first := []) (captured := []) (xs := [.at (tm.getD 2 Go.undef)]) (r := .agg (newA n)) (by kernel_rfl) (by kernel_rfl) (by kernel_rfl) (by rw [h2]; kernel_rfl) (by kernel_rfl) (by kernel_rfl) (by rw [h2]; exact k6) (by kernel_rfl) (by kernel_rfl) ?_
    refine ow_callDG (k := 8) (first := []) (captured := []) (xs := [.agg (newA n), .agg (newA n)]) (r := BO true) (by kernel_rfl) (by kernel_rfl) (by kernel_rfl) (by kernel_rfl) (by kernel_rfl) (by kernel_rfl) k4 (by kernel_rfl) (by kernel_rfl) ?_
    refine ow_all 10 (by kernel_rfl) ?_
    kernel_rfl
end Go.Proofs.V.T17
namespace Go.Proofs.V.T17
open Go Go.Proofs Go.RowKit Go.Lib Go.Proofs.V Go.Proofs.V.L17 Go.Proofs.W Go.Proofs.W.C
set_option linter.unusedVariables false
set_option linter.unusedSimpArgs false
set_option maxRecDepth 100000
theorem agg_noId {s : St} {ntr nar now nsh nth nco nwa : Bool} : NoId (.ref (stA s ntr nar now nsh nth nco nwa) 0) := by
  rintro n ⟨y, hy, rows, nl, rfl⟩
  simp [parts] at hy
theorem eqSelf (bs : List UInt8) : ((⟨⟨bs⟩⟩ : ByteArray).toList == (⟨⟨bs⟩⟩ : ByteArray).toList) = true := by simp
/-- What the last region comes to. -/
theorem region25 {s : St} {rr : Bool} {bs : List UInt8} {tm : Array Value} {ntr nar now nsh nth nco nwa : Bool} (wn : WRL Ono g0 (stW s) (stA s ntr nar now nsh nth nco nwa)) (hrr : Q17.state_Right s = some rr) (hrr' : Q17.ref17_Right s = some rr) (hby : Q17.state_Bytes s = some bs) (hby' : Q17.ref17_Bytes s = some bs) :
    Ow cfgL true (dsOf cfgL R25 true) R25 R25.toList 0 { n := 122, t := fun i => if i = 3 then .ref (stA s ntr nar now nsh nth nco nwa) 0 else if i = 7 then BO true else if i = 11 then BO true else if i = 12 then ST bs else .at (tm.getD i Go.undef), c := 0, al := fun _ => false, H := [], m := fun _ => false } fun F' => F'.t 6 = BO true := by
  have k1 : callQ cfgL (evK cfgL) 13 [.agg (stA s ntr nar now nsh nth nco nwa)] = some (BO rr) := callB Q17.s_state_Right hrr ⟨[.agg (stW s)], rfl, wr_agg wn, trivial⟩
  have k2 : callQ cfgL (evK cfgL) 14 [.agg (stA s ntr nar now nsh nth nco nwa)] = some (BO rr) := callB Q17.s_ref17_Right hrr' ⟨[.agg (stW s)], rfl, wr_agg wn, trivial⟩
  have k3 : callQ cfgL (evK cfgL) 15 [.agg (stA s ntr nar now nsh nth nco nwa)] = some (ST bs) := callS Q17.s_state_Bytes hby ⟨[.agg (stW s)], rfl, wr_agg wn, trivial⟩
  have k4 : callQ cfgL (evK cfgL) 12 [.agg (stA s ntr nar now nsh nth nco nwa)] = some (ST bs) := callS Q17.s_ref17_Bytes hby' ⟨[.agg (stW s)], rfl, wr_agg wn, trivial⟩
  cases rr
  all_goals
    refine ow_k 6 10 (by kernel_rfl) ?_
    refine ow_callDG (k := 13) (first := []) (captured := []) (xs := [.agg (stA s ntr nar now nsh nth nco nwa)]) (by kernel_rfl) (by kernel_rfl) (by kernel_rfl) (by kernel_rfl) (by kernel_rfl) (by kernel_rfl) k1 (by kernel_rfl) (by kernel_rfl) ?_
    refine ow_k 1 10 (by kernel_rfl) ?_
    refine ow_callDG (k := 14) (first := []) (captured := []) (xs := [.agg (stA s ntr nar now nsh nth nco nwa)]) (by kernel_rfl) (by kernel_rfl) (by kernel_rfl) (by kernel_rfl) (by kernel_rfl) (by kernel_rfl) k2 (by kernel_rfl) (by kernel_rfl) ?_
    refine ow_k 4 10 (by kernel_rfl) ?_
    refine ow_callDG (k := 15) (first := []) (captured := []) (xs := [.agg (stA s ntr nar now nsh nth nco nwa)]) (r := ST bs) (by kernel_rfl) (by kernel_rfl) (by kernel_rfl) (by kernel_rfl) (by kernel_rfl) (by kernel_rfl) k3 (by kernel_rfl) (by kernel_rfl) ?_
    refine ow_k 1 10 (by kernel_rfl) ?_
    refine ow_is (x := ((⟨⟨bs⟩⟩ : ByteArray).toList == (⟨⟨bs⟩⟩ : ByteArray).toList)) (w := true) (eqSelf bs) (by kernel_rfl) (by kernel_rfl) (by kernel_rfl) (by kernel_rfl) (by kernel_rfl) ?_
    refine ow_k 3 10 (by kernel_rfl) ?_
    refine ow_callDG (k := 12) (first := []) (captured := []) (xs := [.agg (stA s ntr nar now nsh nth nco nwa)]) (r := ST bs) (by kernel_rfl) (by kernel_rfl) (by kernel_rfl) (by kernel_rfl) (by kernel_rfl) (by kernel_rfl) k4 (by kernel_rfl) (by kernel_rfl) ?_
    refine ow_k 1 10 (by kernel_rfl) ?_
    refine ow_is (x := ((⟨⟨bs⟩⟩ : ByteArray).toList == (⟨⟨bs⟩⟩ : ByteArray).toList)) (w := true) (eqSelf bs) (by kernel_rfl) (by kernel_rfl) (by kernel_rfl) (by kernel_rfl) (by kernel_rfl) ?_
    refine ow_all 10 (by kernel_rfl) ?_
    kernel_rfl
end Go.Proofs.V.T17
namespace Go.Proofs.V.T17
open Go Go.Proofs Go.RowKit Go.Lib Go.Proofs.V Go.Proofs.V.L17 Go.Proofs.W Go.Proofs.W.C
set_option linter.unusedVariables false
set_option linter.unusedSimpArgs false
set_option maxRecDepth 100000
set_option maxHeartbeats 8000000 in
theorem tells_true {w : World} {v1 v2 : Value} {s t : St} {n : Int} (hs : StR w v1 s) (ht : StR w v2 t) (hfs : Q17.law17_Few s = some true) (hft : Q17.law17_Few t = some true) (hm : Q17.Small s) (hmt : Q17.Small t) :
    Calls Tryz.prog 3 #[v1, v2, .int .i64 n] w fun e w' => e = .returned (.bool true) ∧ Below w.heap.size w w' := by
  have self := Q17.same_self hm.mild
  obtain ⟨rs, hrs, hrs'⟩ := Q17.same_ok (t := t) hm.mild
  have hnm : Q17.Mild (newS n) := by obtain ⟨q, h1, _, h3⟩ := Q17.new_ok n; cases h1; exact h3
  obtain ⟨rr, hrr, hrr'⟩ := Q17.right17 hm
  have hby := Q17.bytes_ok hm
  have hby' := Q17.refbytes_ok hm
  generalize toSL (Q17.encS s) = bs at hby hby'
  obtain ⟨A, rfl, hA⟩ := st_agg hs
  obtain ⟨B, rfl, hB⟩ := st_agg ht
  have B3 := bx_new w A
  have B4 := bx_new (w.alloc (.cells A 30)) B
  have B3 := B3.alloc (.cells B 30)
  have e4 : (w.alloc (.cells A 30)).heap.size = w.heap.size + 1 := by simp
  rw [e4] at B4
  clear e4
  have iA : (Tryz.prog.info? 30).map (·.size) = some A.size := by rw [hA, info30]
  have iB : (Tryz.prog.info? 30).map (·.size) = some B.size := by rw [hB, info30]
  have m1 : True := trivial
  have m2 : True := trivial
  have hw : Below w.heap.size w ((w.alloc (.cells A 30)).alloc (.cells B 30)) := ((Below.refl _ w).alloc (Nat.le_refl _) _).alloc (by simp) _
  have R1 := hs.below hw
  have R2 := ht.below hw
  clear ht hA hB
  go_enter Tryz.func3, Tryz.ntmps3
  go_wp2_with (first
    | (refine wpList_load_row rfl 30 (.tmp 3) rfl w.heap.size rfl 30 A (0, 0) _ B3 Tryz.underlying30 rfl iA ?_)
    | (refine wpList_load_row rfl 30 (.tmp 4) rfl (w.heap.size + 1) rfl 30 B (0, 0) _ B4 Tryz.underlying30 rfl iB ?_)
    | (go_at_call 5; refine (small_calls _).mono ?_; rintro e w0 ⟨rfl, hb0⟩; have B3 := B3.below hb0; have B4 := B4.below hb0; have R1 := R1.below hb0; have R2 := R2.below hb0; have hw := hw.trans (hb0.mono hw.size))
    | (go_at_call 6; clear m1; refine (few_calls R1 hfs).mono ?_; rintro e w1 ⟨rfl, hb1⟩; have B3 := B3.below hb1; have B4 := B4.below hb1; have R1 := R1.below hb1; have R2 := R2.below hb1; have hw := hw.trans (hb1.mono hw.size))
    | (go_at_call 6; clear m2; refine (few_calls R2 hft).mono ?_; rintro e w2 ⟨rfl, hb2⟩; have B3 := B3.below hb2; have B4 := B4.below hb2; have R1 := R1.below hb2; have R2 := R2.below hb2; have hw := hw.trans (hb2.mono hw.size))
    | (go_at_call 7; refine (copy2_calls R1 hm.mild).mono ?_; rintro e w3 ⟨C, o1, o2, o3, o4, k1, k2, k3, k4, rfl, hb3, R3, hC, hone, ⟨c1, g1⟩, ⟨c2, g2⟩, ⟨c3, g3⟩, ⟨c4, g4⟩⟩; have B3 := B3.below hb3; have B4 := B4.below hb3; have R1 := R1.below hb3; have R2 := R2.below hb3; have hlo := hw.size; have hw := hw.trans (hb3.mono hw.size); have iC : (Tryz.prog.info? 30).map (·.size) = some C.size := by rw [hC, info30])
    | (refine wpList_storeNew rfl (.tmp 10) (.tmp 30) rfl C rfl rfl hC hone ?_; intro w4 B5 hb4; have u1 := wr_hi g1; have u2 := wr_hi g2; have u3 := wr_hi g3; have u4 := wr_hi g4; have B3 := B3.below hb4; have B4 := B4.below hb4; have R1 := R1.below hb4; have R2 := R2.below hb4; have R3 := R3.below hb4; have hw := hw.trans (hb4.mono hw.size); have g1 := g1.below hb4; have g2 := g2.below hb4; have g3 := g3.below hb4; have g4 := g4.below hb4; clear hone hC))
  obtain ⟨ntr, nar, now, nsh, nth, nco, nwa, -, -, -, -, -, -, -, wn, -, rn⟩ := st_arg R1
  obtain ⟨mtr, mar, mow, msh, mth, mco, mwa, -, -, -, -, -, -, -, wm, -, rm⟩ := st_arg R2
  obtain ⟨ctr, car, cow, csh, cth, cco, cwa, -, -, -, -, -, -, -, wc, -, rc⟩ := st_arg R3
  generalize htm : (#[_, _, _, _, _, _, _, _, _, _, _, _, _, _, _, _, _, _, _, _, _, _, _, _, _, _, _, _, _, _, _, _, _, _, _, _, _, _, _, _, _, _, _, _, _, _, _, _, _, _, _, _, _, _, _, _, _, _, _, _, _, _, _, _, _, _, _, _, _, _, _, _, _, _, _, _, _, _, _, _, _, _, _, _, _, _, _, _, _, _, _, _, _, _, _, _, _, _, _, _, _, _, _, _, _, _, _, _, _, _, _, _, _, _, _, _, _, _, _, _, _, _] : Array Value) = tm
  have hsz : tm.size = 122 := by rw [← htm]; rfl
  have t2 : tm.getD 2 Go.undef = .int .i64 n := by rw [← htm]; rfl
  have t3 : tm.getD 3 Go.undef = .pointer (some ⟨w.heap.size, 0, none⟩) := by rw [← htm]; rfl
  have t4 : tm.getD 4 Go.undef = .pointer (some ⟨w.heap.size + 1, 0, none⟩) := by rw [← htm]; rfl
  have t6 : tm.getD 6 Go.undef = .bool false := by rw [← htm]; rfl
  have t7 : tm.getD 7 Go.undef = .bool true := by rw [← htm]; rfl
  have t10 : tm.getD 10 Go.undef = .pointer (some ⟨w3.heap.size, 0, none⟩) := by rw [← htm]; rfl
  clear htm
  refine segR okL (F := { n := 122, t := fun i => if i = 3 then .ref (stA s ntr nar now nsh nth nco nwa) 0 else if i = 4 then .ref (stA t mtr mar mow msh mth mco mwa) 0 else if i = 10 then .ref (stA s ctr car cow csh cth cco cwa) 0 else .at ((tm).getD i Go.undef), c := 0, al := fun _ => false, H := [], m := fun _ => false }) (fun i => (decide (31 ≤ i) && decide (i < 50)) || i == 11) (by kernel_rfl) (by kernel_rfl) rfl rfl rfl hsz (fun i => ?_) (fun i => ?_) ?_
  · show V.R1 (cellsOf w4) noE _ (tm.getD i Go.undef)
    dsimp only
    by_cases h3 : i = 3
    · subst h3; rw [if_pos rfl, t3]; exact ref_of B3 rn
    by_cases h4 : i = 4
    · subst h4; rw [if_neg (by decide), if_pos rfl, t4]; exact ref_of B4 rm
    by_cases h10 : i = 10
    · subst h10; rw [if_neg (by decide), if_neg (by decide), if_pos rfl, t10]; exact ref_of B5 rc
    rw [if_neg h3, if_neg h4, if_neg h10]
    exact .at _
  · dsimp only
    split
    · exact agg_noId
    split
    · exact agg_noId
    split
    · exact agg_noId
    exact noId_at _
  obtain ⟨F', hF, h11⟩ := region7 (tm := tm) t2 wn wm wc self hrs hrs' hnm
  refine ⟨F', hF, fun a' w5 hS hdf0 hb5 hat => ?_⟩
  have f11 := hat 11 _ h11
  obtain ⟨hS1, hS2⟩ := hS
  obtain ⟨tm5, df5⟩ := a'
  have hdf : df5 = [] := hdf0
  subst hdf
  clear hdf0
  have f3 : tm5.getD 3 Go.undef = _ := (hS2 3 rfl).trans t3
  have f4 : tm5.getD 4 Go.undef = _ := (hS2 4 rfl).trans t4
  have f6 : tm5.getD 6 Go.undef = _ := (hS2 6 rfl).trans t6
  have f7 : tm5.getD 7 Go.undef = _ := (hS2 7 rfl).trans t7
  have f10 : tm5.getD 10 Go.undef = _ := (hS2 10 rfl).trans t10
  have f11 : tm5.getD 11 Go.undef = .bool true := f11
  obtain ⟨f, hf, hlit⟩ := lit122 tm5 (hS1.trans hsz)
  rw [← hf] at f3 f4 f6 f7 f10 f11
  rw [hlit, f3, f4, f6, f7, f10, f11]
  have B3 := B3.below hb5
  have B4 := B4.below hb5
  have B5 := B5.below hb5
  have R1 := R1.below hb5
  have hw := hw.trans (hb5.mono hw.size)
  have g1 := g1.below hb5
  have g2 := g2.below hb5
  have g3 := g3.below hb5
  have g4 := g4.below hb5
  clear hat hS1 hS2 hsz t2 t3 t4 t6 t7 t10 hF h11 hlit hf f3 f4 f6 f7 f10 f11 wn wm wc rn rm rc R3 R2 hrs hrs' self hnm
  simp only [Exit.then]
  refine ‹∀ (a : Act) (w' : World), Code.wp _ _ _ _ _ → _› _ _ ?_
  go_wp2_with (first
    | (refine wpList_load_row rfl 30 (.tmp 3) rfl w.heap.size rfl 30 A (0, 0) _ B3 Tryz.underlying30 rfl iA ?_)
    | (refine wpList_load_row rfl 30 (.tmp 4) rfl (w.heap.size + 1) rfl 30 B (0, 0) _ B4 Tryz.underlying30 rfl iB ?_)
    | (go_at_call 12; refine (refbytes_calls R1 hby').mono ?_; rintro e w6 ⟨rfl, hb6⟩; have B3 := B3.below hb6; have B4 := B4.below hb6; have B5 := B5.below hb6; have R1 := R1.below hb6; have hw := hw.trans (hb6.mono hw.size); have g1 := g1.below hb6; have g2 := g2.below hb6; have g3 := g3.below hb6; have g4 := g4.below hb6))
  have hz : w.heap.size + 2 ≤ w2.heap.size := by
    have h0 := hb0.size
    have h1 := hb1.size
    have h2 := hb2.size
    simp at h0
    omega
  have kp : Kp w A B C w2.heap.size w3.heap.size w6 := ⟨B3, B4, B5, hw, hz⟩
  clear B3 B4 B5 hw R1 hlo iC iB
  have bl1 := hm.mild.tr
  have bl2 := hm.mild.own
  have bl3 := hm.mild.th
  have bl4 := hm.mild.wa
  go_loopw [13] (fun c wr0 => ∃ k : Nat, k ≤ s.2.1.length ∧ c = .int .i64 k ∧ Wr wr0 w2.heap.size s.2.1.length 2 (.slice o1 s.2.1.length k1) ∧ Wr wr0 w2.heap.size s.2.2.2.2.2.2.2.2.2.2.2.2.2.2.1.length 5 (.slice o3 s.2.2.2.2.2.2.2.2.2.2.2.2.2.2.1.length k3) ∧ Wr wr0 w2.heap.size s.2.2.2.2.2.2.2.1.length 1 (.slice o2 s.2.2.2.2.2.2.2.1.length k2) ∧ Wr wr0 w2.heap.size s.2.2.2.2.2.2.2.2.2.2.2.2.2.2.2.2.1.length 2 (.slice o4 s.2.2.2.2.2.2.2.2.2.2.2.2.2.2.2.2.1.length k4) ∧ Kp w A B C w2.heap.size w3.heap.size wr0)
    (fun c _ => s.2.1.length - (RowKit.intOf c).toNat)
  case atStart => exact ⟨0, Nat.zero_le _, rfl, g1, g3, g2, g4, kp⟩
  case round =>
    obtain ⟨k, hk, rfl, q01, q03, q02, q04, kp0⟩ := hrel
    clear g1 g3 g2 g4 kp
    have x0 := kp0.c.cell c1
    by_cases hlt : k < s.2.1.length
    · obtain ⟨b1, cap, u0, e, hbb, d0, z0⟩ := q01.at hlt (by decide)
      simp only [Value.slice.injEq] at e
      obtain ⟨rfl, _, rfl⟩ := e
      skip
      obtain ⟨-, hb9⟩ := u1 b1 rfl (by omega)
      go_wp2
      exact ⟨⟨k + 1, by omega, by go_num, q01.set _ _, q03.set _ _, q02.set _ _, q04.set _ _, kp0.set hbb hb9 _⟩, by simp [RowKit.intOf]; omega⟩
    · go_wp2
      go_loopw [14] (fun c wr1 => ∃ k : Nat, k ≤ s.2.2.2.2.2.2.2.2.2.2.2.2.2.2.1.length ∧ c = .int .i64 k ∧ Wr wr1 w2.heap.size s.2.2.2.2.2.2.2.2.2.2.2.2.2.2.1.length 5 (.slice o3 s.2.2.2.2.2.2.2.2.2.2.2.2.2.2.1.length k3) ∧ Wr wr1 w2.heap.size s.2.2.2.2.2.2.2.1.length 1 (.slice o2 s.2.2.2.2.2.2.2.1.length k2) ∧ Wr wr1 w2.heap.size s.2.2.2.2.2.2.2.2.2.2.2.2.2.2.2.2.1.length 2 (.slice o4 s.2.2.2.2.2.2.2.2.2.2.2.2.2.2.2.2.1.length k4) ∧ Kp w A B C w2.heap.size w3.heap.size wr1)
        (fun c _ => s.2.2.2.2.2.2.2.2.2.2.2.2.2.2.1.length - (RowKit.intOf c).toNat)
      case atStart => exact ⟨0, Nat.zero_le _, rfl, q03, q02, q04, kp0⟩
      case round =>
        obtain ⟨k, hk, rfl, q13, q12, q14, kp1⟩ := hrel
        clear q03 q02 q04 kp0
        have x1 := kp1.c.cell c3
        by_cases hlt : k < s.2.2.2.2.2.2.2.2.2.2.2.2.2.2.1.length
        · obtain ⟨b1, cap, u0, e, hbb, d0, z0⟩ := q13.at hlt (by decide)
          simp only [Value.slice.injEq] at e
          obtain ⟨rfl, _, rfl⟩ := e
          skip
          obtain ⟨-, hb9⟩ := u3 b1 rfl (by omega)
          go_wp2
          exact ⟨⟨k + 1, by omega, by go_num, q13.set _ _, q12.set _ _, q14.set _ _, kp1.set hbb hb9 _⟩, by simp [RowKit.intOf]; omega⟩
        · go_wp2
          go_loopw [15] (fun c wr2 => ∃ k : Nat, k ≤ s.2.2.2.2.2.2.2.1.length ∧ c = .int .i64 k ∧ Wr wr2 w2.heap.size s.2.2.2.2.2.2.2.1.length 1 (.slice o2 s.2.2.2.2.2.2.2.1.length k2) ∧ Wr wr2 w2.heap.size s.2.2.2.2.2.2.2.2.2.2.2.2.2.2.2.2.1.length 2 (.slice o4 s.2.2.2.2.2.2.2.2.2.2.2.2.2.2.2.2.1.length k4) ∧ Kp w A B C w2.heap.size w3.heap.size wr2)
            (fun c _ => s.2.2.2.2.2.2.2.1.length - (RowKit.intOf c).toNat)
          case atStart => exact ⟨0, Nat.zero_le _, rfl, q12, q14, kp1⟩
          case round =>
            obtain ⟨k, hk, rfl, q22, q24, kp2⟩ := hrel
            clear q12 q14 kp1
            have x2 := kp2.c.cell c2
            by_cases hlt : k < s.2.2.2.2.2.2.2.1.length
            · obtain ⟨b1, cap, u0, e, hbb, d0, z0⟩ := q22.at hlt (by decide)
              simp only [Value.slice.injEq] at e
              obtain ⟨rfl, _, rfl⟩ := e
              rw [Nat.mul_one] at d0 z0
              obtain ⟨-, hb9⟩ := u2 b1 rfl (by omega)
              go_wp2
              exact ⟨⟨k + 1, by omega, by go_num, q22.set _ _, q24.set _ _, kp2.set hbb hb9 _⟩, by simp [RowKit.intOf]; omega⟩
            · go_wp2
              go_loopw [16] (fun c wr3 => ∃ k : Nat, k ≤ s.2.2.2.2.2.2.2.2.2.2.2.2.2.2.2.2.1.length ∧ c = .int .i64 k ∧ Wr wr3 w2.heap.size s.2.2.2.2.2.2.2.2.2.2.2.2.2.2.2.2.1.length 2 (.slice o4 s.2.2.2.2.2.2.2.2.2.2.2.2.2.2.2.2.1.length k4) ∧ Kp w A B C w2.heap.size w3.heap.size wr3)
                (fun c _ => s.2.2.2.2.2.2.2.2.2.2.2.2.2.2.2.2.1.length - (RowKit.intOf c).toNat)
              case atStart => exact ⟨0, Nat.zero_le _, rfl, q24, kp2⟩
              case round =>
                obtain ⟨k, hk, rfl, q34, kp3⟩ := hrel
                clear q24 kp2
                have x3 := kp3.c.cell c4
                by_cases hlt : k < s.2.2.2.2.2.2.2.2.2.2.2.2.2.2.2.2.1.length
                · obtain ⟨b1, cap, u0, e, hbb, d0, z0⟩ := q34.at hlt (by decide)
                  simp only [Value.slice.injEq] at e
                  obtain ⟨rfl, _, rfl⟩ := e
                  skip
                  obtain ⟨-, hb9⟩ := u4 b1 rfl (by omega)
                  go_wp2
                  exact ⟨⟨k + 1, by omega, by go_num, q34.set _ _, kp3.set hbb hb9 _⟩, by simp [RowKit.intOf]; omega⟩
                · go_wp2
                  have R1 := hs.below kp3.bw
                  obtain ⟨ntr, nar, now, nsh, nth, nco, nwa, -, -, -, -, -, -, -, wn, -, rn⟩ := st_arg R1
                  generalize htm : (#[_, _, _, _, _, _, _, _, _, _, _, _, _, _, _, _, _, _, _, _, _, _, _, _, _, _, _, _, _, _, _, _, _, _, _, _, _, _, _, _, _, _, _, _, _, _, _, _, _, _, _, _, _, _, _, _, _, _, _, _, _, _, _, _, _, _, _, _, _, _, _, _, _, _, _, _, _, _, _, _, _, _, _, _, _, _, _, _, _, _, _, _, _, _, _, _, _, _, _, _, _, _, _, _, _, _, _, _, _, _, _, _, _, _, _, _, _, _, _, _, _, _] : Array Value) = tm
                  have hsz : tm.size = 122 := by rw [← htm]; rfl
                  have t3 : tm.getD 3 Go.undef = .pointer (some ⟨w.heap.size, 0, none⟩) := by rw [← htm]; rfl
                  have t7 : tm.getD 7 Go.undef = .bool true := by rw [← htm]; rfl
                  have t11 : tm.getD 11 Go.undef = .bool true := by rw [← htm]; rfl
                  have t12 : tm.getD 12 Go.undef = .string ⟨⟨bs⟩⟩ := by rw [← htm]; rfl
                  clear htm
                  refine segR okL (F := { n := 122, t := fun i => if i = 3 then .ref (stA s ntr nar now nsh nth nco nwa) 0 else if i = 7 then BO true else if i = 11 then BO true else if i = 12 then ST bs else .at ((tm).getD i Go.undef), c := 0, al := fun _ => false, H := [], m := fun _ => false }) (fun i => decide (99 ≤ i) || i == 6) (by kernel_rfl) (by kernel_rfl) rfl rfl rfl hsz (fun i => ?_) (fun i => ?_) ?_
                  · show V.R1 (cellsOf _) noE _ (tm.getD i Go.undef)
                    dsimp only
                    by_cases h3 : i = 3
                    · subst h3; rw [if_pos rfl, t3]; exact ref_of kp3.a rn
                    by_cases h7 : i = 7
                    · subst h7; rw [if_neg (by decide), if_pos rfl, t7]; exact .at _
                    by_cases h11 : i = 11
                    · subst h11; rw [if_neg (by decide), if_neg (by decide), if_pos rfl, t11]; exact .at _
                    by_cases h12 : i = 12
                    · subst h12; rw [if_neg (by decide), if_neg (by decide), if_neg (by decide), if_pos rfl, t12]; exact .at _
                    rw [if_neg h3, if_neg h7, if_neg h11, if_neg h12]
                    exact .at _
                  · dsimp only
                    split
                    · exact agg_noId
                    split
                    · exact noId_at _
                    split
                    · exact noId_at _
                    split
                    · exact noId_at _
                    exact noId_at _
                  obtain ⟨F', hF, h6⟩ := region25 (tm := tm) wn hrr hrr' hby hby'
                  refine ⟨F', hF, fun a' w9 hS hdf0 hb9 hat => ?_⟩
                  have f6 : a'.tmps.getD 6 Go.undef = .bool true := hat 6 _ h6
                  obtain ⟨hS1, hS2⟩ := hS
                  have hw9 := kp3.bw.trans (hb9.mono kp3.bw.size)
                  obtain ⟨tm5, df5⟩ := a'
                  have hdf : df5 = [] := hdf0
                  subst hdf
                  clear hdf0
                  have f6 : tm5.getD 6 Go.undef = .bool true := f6
                  obtain ⟨f', hf, hlit⟩ := lit122 tm5 (hS1.trans hsz)
                  rw [← hf] at f6
                  rw [hlit, f6]
                  clear hat hS1 hS2 hsz t3 t7 t11 t12 hF h6 hlit hf f6 wn rn
                  simp only [Exit.then]
                  refine ‹∀ (a : Act) (w' : World), Code.wp _ _ _ _ _ → _› _ _ ?_
                  go_wp2
                  go_ret
                  exact ⟨rfl, hw9⟩
end Go.Proofs.V.T17
