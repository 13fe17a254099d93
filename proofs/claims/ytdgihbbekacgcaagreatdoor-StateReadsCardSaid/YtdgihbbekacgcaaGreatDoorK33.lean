/- The document's Number and String (layer 1) at the seat of StateTells, walked. -/
import Derived.Test.YtdgihbbekacgcaaGreatDoorProg
import Derived.Test.YtdgihbbekacgcaaGreatDoorK30
import Derived.Test.YtdgihbbekacgcaaGreatDoorK32
import Derived.Laws.AppendOwnNone
import Derived.Laws.OwnMore
import Derived.Lib.AppendStr
import Derived.WalkKit
import Derived.Deep.RegionLaw
namespace Go.Proofs.V.L17
open Go.Proofs.W.Q17 Go Go.Proofs Go.RowKit Go.Lib Go.Proofs.V Go.Proofs.W Go.Proofs.W.C
set_option linter.unusedVariables false
set_option linter.unusedSimpArgs false
set_option maxRecDepth 100000
abbrev tU : RT := .one (.int .u8)
def cellsU (n : Int) : List Value := [.int .u8 n]
theorem kU : Cells tU 1 cellsU := ⟨rfl, fun x => rfl, fun x => rfl, fun x u hu => by simp [cellsU] at hu; subst hu; rfl⟩
theorem oneCellsU (l : List Int) : ∀ u ∈ l.flatMap cellsU, u.oneCell' = true := by
  intro u hu
  obtain ⟨e, _, hu⟩ := List.mem_flatMap.1 hu
  simp [cellsU] at hu
  subst hu; rfl
theorem info5 : (Tryz.prog.info? 5).map (fun i => (i.zero, i.size, i.bytes)) = some (some (.int .u8 0), 1, 1) := by kernel_rfl
theorem info_parts {i : Option TypeInfo} {z : Value} {s b : Nat} (h : i.map (fun i => (i.zero, i.size, i.bytes)) = some (some z, s, b)) : ∃ j, i = some j ∧ j.zero = some z ∧ j.size = s ∧ j.bytes = b := by
  cases i with
  | none => cases h
  | some j =>
    simp only [Option.map_some, Option.some.injEq, Prod.mk.injEq] at h
    exact ⟨j, rfl, h.1, h.2.1, h.2.2⟩
theorem wpList_appendU {w : World} {ops : Array Oper} {rest : List Oper} {o : Oper} {a : Act} {Q : Exit → Act → World → Prop} (hgd : o.guard = none) (s x : Operand)
    (ho : o.op = .call { callee := .builtin .append, args := #[s, x], argTypes := #[51, 51] }) (base : Nat) (v : Value) (n : Nat) (xs : List Value) (l : List Int) (vl : Value) (hs : a.eval s = v) (hown : w.ownsRow base 5 1 v n xs)
    (hx : a.eval x = vl) (hsl : SlR tU w vl l) (hn : n ≤ 10000000000) (hl : l.length ≤ 10000000000) (hbase : base ≤ w.heap.size)
    (h : ∀ v' w', w'.ownsRow base 5 1 v' (n + l.length) (xs ++ l.flatMap cellsU) → w.grownBy w' v.ownBlock → wpList Tryz.prog ops Q rest (a.put o.dst v') w') : wpList Tryz.prog ops Q (o :: rest) a w := by
  obtain ⟨i0, hi, hz0, hz1, hz2⟩ := info_parts info5
  rcases slR_form kU hsl with ⟨rfl, rfl⟩ | ⟨b, off, cap, rfl, hc, hcells⟩
  · refine wpList_append_own_none hgd s x 51 ho base 5 i0 1 Tryz.underlying51 hi v n xs hs hown hx (h v w (by simpa using hown) ⟨rfl, rfl, rfl, Nat.le_refl _, fun _ _ _ => rfl⟩)
  · exact wpList_append_own w hgd s x 51 ho base 5 i0 _ 1 1 Tryz.underlying51 hi hz0 hz1 hz2 rfl (by decide) v n xs hs hown ⟨b, off, none⟩ l.length cap (l.flatMap cellsU) hx (kU.flen l) (fun j u hu => by rw [Addr.add_lit]; exact hcells j u hu) (oneCellsU l) (by unfold maxLen; omega) (by omega) hbase fun v' w' h1 h2 _ => h v' w' h1 h2
theorem own_base {w : World} {base e sz : Nat} {v : Value} {n : Nat} {xs : List Value} (h : w.ownsRow base e sz v n xs) {k : Nat} (hk : v.ownBlock = some k) : base ≤ k := by
  rcases h.2 with ⟨rfl, _⟩ | ⟨g, cap, cur, rfl, hb, _⟩
  · cases hk
  · have h1 : some g = some k := hk
    cases h1
    exact hb
set_option maxHeartbeats 2000000 in
theorem num_calls {w : World} {v : Value} {l : List Int} {n : Int} (hs : SlR tU w v l) (hl : l.length ≤ 1000000000) :
    Calls Tryz.prog 85 #[v, .int .i64 n] w fun e w' => ∃ v', e = .returned v' ∧ w'.ownsRow w.heap.size 5 1 v' (l.length + 4) (l.flatMap cellsU ++ (be4 n).flatMap cellsU) ∧ Below w.heap.size w w' := by
  go_enter Tryz.func85, Tryz.ntmps85
  go_wp2_with (first
    | (at_builtin; refine wpList_appendU (w := ?w1) (l := l) ?g1 (.tmp 8) (.tmp 9) ?g4 w.heap.size (.slice (some ⟨w.heap.size, 0, none⟩) 0 0) 0 [] v ?g7 ?g8 ?g9 ?g10 ?g11 ?g12 ?g13 ?g14))
  case g4 => exact rfl
  case g8 => exact (World.ownsRow_made (base := w.heap.size) (e := 5) (size := 1) w #[] 0 (Nat.le_refl _) (Nat.zero_le _) (by simp))
  case g10 => exact hs.below ((Below.refl _ w).alloc (Nat.le_refl _) _)
  case g11 => omega
  case g12 => omega
  case g13 => simp
  try (case g1 => rfl)
  · intro vi w3 hown3 hgr3
    have hb3 : Below w.heap.size w w3 := by
      refine ((Below.refl _ w).alloc (Nat.le_refl _) _).grown hgr3 (by simp) (fun k hk => ?_)
      have h1 : some w.heap.size = some k := hk
      cases h1
      exact Nat.le_refl _
    have hs3 := hb3.size
    try simp only [Nat.zero_add, List.nil_append] at hown3
    go_wp2_with (first
      | (at_builtin; refine wpList_appendU (w := ?p0) (l := be4 n) ?p1 (.tmp 10) (.tmp 22) ?p4 w.heap.size vi l.length (l.flatMap cellsU) (.slice (some ⟨w3.heap.size, 0, none⟩) 4 4) ?p7 ?p8 ?p9 ?p10 ?p11 ?p12 ?p13 ?p14))
    case p1 => exact rfl
    case p4 => exact rfl
    case p7 => exact rfl
    case p8 => exact hown3.alloc _
    case p9 => exact rfl
    case p10 =>
      refine slR_cells (l := be4 n) kU (g := w3.heap.size) (off := 0) (cap := 4) (by simp [be4]) fun j u hu => ?_
      rw [World.cell?_alloc_new, Nat.zero_add, ← hu, ← List.getElem?_toArray]
      congr 1
      have hc : clampN n = 4294967295 := by unfold clampN; (repeat' split) <;> omega
      simp [be4, hc, cellsU]
    case p11 => omega
    case p12 => simp [be4]
    case p13 => simp; omega
    case p14 =>
      intro v2 w4 hown4 hgr4
      go_wp2
      go_ret
      exact ⟨v2, rfl, hown4, (hb3.alloc hb3.size _).grown hgr4 (by simp; omega) (fun k hk => own_base hown3 hk)⟩
  · intro vi w3 hown3 hgr3
    have hb3 : Below w.heap.size w w3 := by
      refine ((Below.refl _ w).alloc (Nat.le_refl _) _).grown hgr3 (by simp) (fun k hk => ?_)
      have h1 : some w.heap.size = some k := hk
      cases h1
      exact Nat.le_refl _
    have hs3 := hb3.size
    try simp only [Nat.zero_add, List.nil_append] at hown3
    go_wp2_with (first
      | (at_builtin; refine wpList_appendU (w := ?q0) (l := be4 n) ?q1 (.tmp 10) (.tmp 22) ?q4 w.heap.size vi l.length (l.flatMap cellsU) (.slice (some ⟨w3.heap.size, 0, none⟩) 4 4) ?q7 ?q8 ?q9 ?q10 ?q11 ?q12 ?q13 ?q14))
    case q1 => exact rfl
    case q4 => exact rfl
    case q7 => exact rfl
    case q8 => exact hown3.alloc _
    case q9 => exact rfl
    case q10 =>
      refine slR_cells (l := be4 n) kU (g := w3.heap.size) (off := 0) (cap := 4) (by simp [be4]) fun j u hu => ?_
      rw [World.cell?_alloc_new, Nat.zero_add, ← hu, ← List.getElem?_toArray]
      congr 1
      have hc : clampN n = n := by unfold clampN; (repeat' split) <;> omega
      simp [be4, hc, cellsU] <;> omega
    case q11 => omega
    case q12 => simp [be4]
    case q13 => simp; omega
    case q14 =>
      intro v2 w4 hown4 hgr4
      go_wp2
      go_ret
      exact ⟨v2, rfl, hown4, (hb3.alloc hb3.size _).grown hgr4 (by simp; omega) (fun k hk => own_base hown3 hk)⟩
  · intro vi w3 hown3 hgr3
    have hb3 : Below w.heap.size w w3 := by
      refine ((Below.refl _ w).alloc (Nat.le_refl _) _).grown hgr3 (by simp) (fun k hk => ?_)
      have h1 : some w.heap.size = some k := hk
      cases h1
      exact Nat.le_refl _
    have hs3 := hb3.size
    try simp only [Nat.zero_add, List.nil_append] at hown3
    go_wp2_with (first
      | (at_builtin; refine wpList_appendU (w := ?r0) (l := be4 n) ?r1 (.tmp 10) (.tmp 22) ?r4 w.heap.size vi l.length (l.flatMap cellsU) (.slice (some ⟨w3.heap.size, 0, none⟩) 4 4) ?r7 ?r8 ?r9 ?r10 ?r11 ?r12 ?r13 ?r14))
    case r1 => exact rfl
    case r4 => exact rfl
    case r7 => exact rfl
    case r8 => exact hown3.alloc _
    case r9 => exact rfl
    case r10 =>
      refine slR_cells (l := be4 n) kU (g := w3.heap.size) (off := 0) (cap := 4) (by simp [be4]) fun j u hu => ?_
      rw [World.cell?_alloc_new, Nat.zero_add, ← hu, ← List.getElem?_toArray]
      congr 1
      have hc : clampN n = 0 := by unfold clampN; (repeat' split) <;> omega
      simp [be4, hc, cellsU]
    case r11 => omega
    case r12 => simp [be4]
    case r13 => simp; omega
    case r14 =>
      intro v2 w4 hown4 hgr4
      go_wp2
      go_ret
      exact ⟨v2, rfl, hown4, (hb3.alloc hb3.size _).grown hgr4 (by simp; omega) (fun k hk => own_base hown3 hk)⟩
theorem step_append_ownS {P : Program} {ops : Array Oper} {o : Oper} {a : Act} {w : World} {K : Act → World → Prop} {Q : Exit → Act → World → Prop} {E : Prop}
    (hg : o.guard = none) (sl x : Operand) (t u : TypeId) (hop : o.op = Op.call { callee := Callee.builtin Builtin.append, args := #[sl, x], argTypes := #[t, u] })
    (base : Nat) (e : TypeId) (i : TypeInfo) (ht : P.underlying t = some (.slice e)) (hu : P.underlying u = some .string) (hi : P.info? e = some i) (hz : i.zero = some (.int .u8 0)) (hsize : i.size = 1) (hby : i.bytes = 1)
    (v : Value) (n : Nat) (xs : List Value) (hs : a.eval sl = v) (hown : w.ownsRow base e 1 v n xs) (s : ByteArray) (hx : a.eval x = .string s) (h63 : n + s.size ≤ maxLen) (hbytes : n + s.size ≤ 140737488355328) (hbase : base ≤ w.heap.size)
    (hK : ∀ v' w', w'.ownsRow base e 1 v' (n + s.size) (xs ++ strCells s) → w.grownBy w' v.ownBlock → K (a.put o.dst v') w') :
    if Region.wanted o (yielded ops a.tmps) = true then Oper.wp P o a w K Q else E := by
  have hw : Region.wanted o (yielded ops a.tmps) = true := by simp [Region.wanted, hg]
  rw [if_pos hw]
  obtain ⟨v', w', hr, h2, h3, _⟩ := run_append_own_string (P := P) w base t u o.type e i ht hu hi hz hsize hby v n xs hown s h63 hbytes hbase
  unfold Oper.wp
  simp [execOp, hop, resolve, invoke, builtin, hs, hx, hr, Result.andThen]
  exact hK v' w' h2 h3
set_option maxHeartbeats 2000000 in
theorem str_calls0 {w : World} {v : Value} {l : List Int} {s : List UInt8} (hs : SlR tU w v l) (hl : l.length ≤ 1000000000) (hsl : s.length ≤ 16384) :
    Calls Tryz.prog 86 #[v, .string ⟨⟨s⟩⟩] w fun e w' => ∃ v', e = .returned v' ∧ w'.ownsRow w.heap.size 5 1 v' (l.length + 4 + s.length) (l.flatMap cellsU ++ (be4 s.length).flatMap cellsU ++ strCells ⟨⟨s⟩⟩) ∧ Below w.heap.size w w' := by
  obtain ⟨i0, hi, hz0, hz1, hz2⟩ := info_parts info5
  have hm : ¬ ((16384 : Int) < s.length) := by omega
  have hm2 : s.length ≤ maxLen := by unfold maxLen; omega
  have hex : (⟨⟨s⟩⟩ : ByteArray).extract 0 s.length = ⟨⟨s⟩⟩ := by apply ByteArray.ext; simp [ByteArray.data_extract]
  have hsz : (⟨⟨s⟩⟩ : ByteArray).size = s.length := rfl
  go_enter Tryz.func86, Tryz.ntmps86
  go_wp2_with fail
  go_region_law (first
    | (refine step_append_ownS rfl (.tmp 11) (.tmp 14) 51 9 rfl w.heap.size 5 i0 Tryz.underlying51 Tryz.underlying9 hi hz0 hz1 hz2 v1 _ _ rfl hown1 ⟨⟨s⟩⟩ (by first | rfl | simp [Act.eval, Act.put, hex]) (by rw [hsz]; unfold maxLen; omega) (by rw [hsz]; omega) (by have := hb1.size; simpa using this) ?_; intro v2 w2 hown2 hgr2)
    | (go_simp; go_at_call 85; refine (num_calls (hs.below (by first | exact Below.refl _ _ | (exact (Below.refl _ w).drew))) hl).mono ?_; rintro e w1 ⟨v1, rfl, hown1, hb1⟩))
  all_goals go_wp2
  all_goals go_ret
  all_goals exact ⟨v2, rfl, by simpa [List.append_assoc, hsz] using hown2, by
    have hb1' : Below w.heap.size w w1 := by simpa using (Below.refl _ w).drew.trans hb1
    exact hb1'.grown hgr2 hb1'.size (fun k hk => own_base hown1 hk)⟩
theorem cells_bytes (s : List UInt8) : strCells ⟨⟨s⟩⟩ = (toBL s).flatMap cellsU := by
  induction s with
  | nil => rfl
  | cons b s ih =>
    have e : strCells ⟨⟨b :: s⟩⟩ = Value.int .u8 b.toNat :: strCells ⟨⟨s⟩⟩ := rfl
    rw [e, ih]; rfl
/-- What stands for String. -/
noncomputable def strExt := wExt [.c (.sl tU), .c .str] [.c (.sl tU)] ref01_String (fun _ y => outS tU y)
theorem str_csound {xs : List AV} {r : AV} (h : strExt xs = some r) : CSound Tryz.prog 86 xs [] r [] := by
  refine wExt_csound (a := [.c (.sl tU), .c .str]) (rs := [.c (.sl tU)]) (F := ref01_String) (out := fun _ y => outS tU y) Tryz.func86 rfl (by kernel_rfl) (fun _ y => noS (r := tU) y) ?_ h
  intro x y xs w E vs ha hF hl hR
  obtain ⟨v1, v2, rfl, hs, hs2⟩ := at2 (c1 := .sl tU) (c2 := .str) rfl rfl ha hl hR
  have hF : ref01_String x = some y := hF
  unfold ref01_String at hF
  split at hF
  case isFalse => cases hF
  rename_i ho
  cases hF
  have e2 : v2 = .string ⟨⟨x.2⟩⟩ := hs2
  subst e2
  refine (str_calls0 hs ho.1 ho.2).mono ?_
  rintro e w' ⟨v', rfl, hown, hb⟩
  refine ⟨v', rfl, hb, ?_⟩
  refine new_cells (e := 5) kU (Nat.le_refl _) (v := v') (l := x.1 ++ be4 x.2.length ++ toBL x.2) ?_ (fun e => by simp [be4] at e) E
  rw [cells_bytes] at hown
  have hlen : (x.1 ++ be4 x.2.length ++ toBL x.2).length = x.1.length + 4 + x.2.length := by
    have e : (toBL x.2).length = x.2.length := List.length_map ..
    rw [List.length_append, List.length_append, e]; simp [be4]
  rw [hlen, List.flatMap_append, List.flatMap_append]
  exact hown
end Go.Proofs.V.L17
