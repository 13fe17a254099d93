/- slices.Concat of two rows of actions, walked. -/
import Derived.Test.YtckammfgogiplaaGreatDoorK26
import Derived.Laws.AppendOwnNone
import Derived.Test.YtckammfgogiplaaGreatDoorK30
namespace Go.Proofs.V.R10
open Go Go.Proofs Go.RowKit Go.Maps
set_option linter.unusedVariables false
set_option linter.unusedSimpArgs false
abbrev Acn := (List UInt8) × (Bool × (List UInt8))
def cellsA (e : Acn) : List Value := [.string ⟨⟨e.1⟩⟩, .bool e.2.1, .string ⟨⟨e.2.2⟩⟩]
theorem cellsA_len (l : List Acn) : (l.flatMap cellsA).length = l.length * 3 := by
  induction l with
  | nil => rfl
  | cons e l ih => rw [List.flatMap_cons, List.length_append, ih]; simp [cellsA]; omega
theorem oneCellsA (l : List Acn) : ∀ u ∈ l.flatMap cellsA, u.oneCell' = true := by
  intro u hu
  obtain ⟨e, _, hu⟩ := List.mem_flatMap.1 hu
  simp [cellsA] at hu
  rcases hu with rfl | rfl | rfl <;> rfl
/-- Actions in memory. -/
def SlA (w : World) (v : Value) (l : List Acn) : Prop := (v = .slice none 0 0 ∧ l = []) ∨ ∃ b off cap, v = .slice (some ⟨b, off, none⟩) l.length cap ∧ l.length ≤ cap ∧ ∀ j u, (l.flatMap cellsA)[j]? = some u → w.cell? ⟨b, off + j, none⟩ = some u
theorem SlA.below {w w' : World} {v : Value} {l : List Acn} (h : SlA w v l) (hb : Below w.heap.size w w') : SlA w' v l := by
  rcases h with h | ⟨b, off, cap, hv, hc, h⟩
  · exact .inl h
  · exact .inr ⟨b, off, cap, hv, hc, fun j u hu => (hb.cell (World.block_lt_of_cell? w _ (h j u hu))).trans (h j u hu)⟩
theorem SlA.len {w : World} {v : Value} {l : List Acn} (h : SlA w v l) : ∃ ao cap, v = .slice ao l.length cap := by
  rcases h with ⟨rfl, rfl⟩ | ⟨b, off, cap, rfl, _⟩
  · exact ⟨none, 0, rfl⟩
  · exact ⟨_, cap, rfl⟩
theorem info52 : (Tryz.prog.info? 52).map (fun i => (i.zero, i.size, i.bytes)) = some (some (.agg #[.string ByteArray.empty, .bool false, .string ByteArray.empty]), 3, 40) := by kernel_rfl
theorem grow_calls (n : Nat) (hn : n ≤ 3000) (w : World) : Calls Tryz.prog 83 #[.slice none 0 0, .int .i64 n] w fun e w' => ∃ v, e = .returned v ∧ w'.ownsRow w.heap.size 52 3 v 0 [] ∧ Below w.heap.size w w' ∧ (n = 0 → v = .slice none 0 0) := by
  by_cases h0 : n = 0
  · subst h0
    refine (Any8.slices_Grow_room Tryz.grow83 none 0 0 0 w (Nat.le_refl _) (by decide) (by decide) (by decide)).mono ?_
    rintro e w' ⟨rfl, rfl⟩
    exact ⟨_, rfl, World.ownsRow_nil _ _ _ _, Below.refl _ _, fun _ => rfl⟩
  · obtain ⟨i0, hi, hz0, hz1, hz2⟩ := info_parts info52
    refine (Any8.slices_Grow_grow Tryz.grow83 i0 _ hi hz0 (by omega) none 0 0 n [] w (Nat.le_refl _) (by omega) (by rw [hz2]; omega) (by omega) (by simp) (fun _ => rfl) (fun a h => by cases h)).mono ?_
    rintro e w' ⟨rfl, rfl⟩
    refine ⟨_, rfl, ?_, ((Below.refl _ _).drew).alloc (by simp) _, fun h => absurd h h0⟩
    refine World.ownsRow_made w.drew _ _ (by simp) (grownCap_le_maxLen _ _ _ _ (by unfold maxLen; omega)) ?_
    have e52 : Tryz.grow83_ren.t 25 = 52 := by kernel_rfl
    have := grownCap_ge w (0 + n) 0 52
    rw [e52]
    simp [Builtin.zeroCells, Value.cells]
    simp at this
    omega
theorem wpList_appendA {w : World} {ops : Array Oper} {rest : List Oper} {o : Oper} {a : Act} {Q : Exit → Act → World → Prop} (hgd : o.guard = none) (s x : Operand)
    (ho : o.op = .call { callee := .builtin .append, args := #[s, x], argTypes := #[38, 38] }) (base : Nat) (v : Value) (n : Nat) (xs : List Value) (l : List Acn) (ao : Option Addr) (c : Nat) (hs : a.eval s = v) (hown : w.ownsRow base 52 3 v n xs)
    (hx : a.eval x = .slice ao l.length c) (hsl : SlA w (.slice ao l.length c) l) (hn : n ≤ 2000) (hl : l.length ≤ 1000) (hbase : base ≤ w.heap.size)
    (h : ∀ v' w', w'.ownsRow base 52 3 v' (n + l.length) (xs ++ l.flatMap cellsA) → w.grownBy w' v.ownBlock → (v' = .slice none 0 0 ↔ v = .slice none 0 0 ∧ l.length = 0) → wpList Tryz.prog ops Q rest (a.put o.dst v') w') : wpList Tryz.prog ops Q (o :: rest) a w := by
  obtain ⟨i0, hi, hz0, hz1, hz2⟩ := info_parts info52
  rcases hsl with ⟨e, rfl⟩ | ⟨b, off, cap, e, hc, hcells⟩
  · rw [e] at hx
    refine wpList_append_own_none hgd s x 38 ho base 52 i0 3 Tryz.underlying38 hi v n xs hs hown hx (h v w (by simpa using hown) ⟨rfl, rfl, rfl, Nat.le_refl _, fun _ _ _ => rfl⟩ (by simp))
  · rw [e] at hx
    exact wpList_append_own w hgd s x 38 ho base 52 i0 _ 3 40 Tryz.underlying38 hi hz0 hz1 hz2 rfl (by decide) v n xs hs hown ⟨b, off, none⟩ l.length cap (l.flatMap cellsA) hx (cellsA_len l) (fun j u hu => by rw [addr_off]; exact hcells j u hu) (oneCellsA l) (by unfold maxLen; omega) (by omega) hbase h
set_option maxRecDepth 100000 in
theorem concat_calls {w : World} {a b : List Acn} {va vb : Value} {B O cap : Nat} (c0 : w.cell? ⟨B, O, none⟩ = some va) (c1 : w.cell? ⟨B, O + 1, none⟩ = some vb) (sa : SlA w va a) (sb : SlA w vb b) (ha : a.length ≤ 1000) (hb : b.length ≤ 1000) :
    Calls Tryz.prog 46 #[.slice (some ⟨B, O, none⟩) 2 cap] w fun e w' => ∃ v, e = .returned v ∧ w'.ownsRow w.heap.size 52 3 v (a ++ b).length ((a ++ b).flatMap cellsA) ∧ Below w.heap.size w w' ∧ (a ++ b = [] → v = .slice none 0 0) := by
  obtain ⟨ao, ca, hva⟩ := sa.len
  obtain ⟨bo, cb, hvb⟩ := sb.len
  subst hva
  subst hvb
  go_enter Tryz.func46, Tryz.ntmps46
  go_wp2
  refine wp_loop_rounds 3 ?_
  have s1 : wrap64 (0 + (a.length : Int)) = (a.length : Int) := by unfold wrap64; omega
  have s2 : wrap64 ((a.length : Int) + (b.length : Int)) = ((a.length + b.length : Nat) : Int) := by unfold wrap64; omega
  have hg := fun wr => grow_calls (a.length + b.length) (by omega) wr
  rw [Int.natCast_add] at hg
  rw [rounds_succ]
  go_wp2
  rw [rounds_succ]
  go_wp2
  rw [rounds_succ]
  go_wp2_with (first
    | (go_at_call 83; refine (hg _).mono ?_; rintro e w1 ⟨vg, rfl, hown1, hb1, hn1⟩))
  have k0 : w1.cell? ⟨B, O, none⟩ = some (.slice ao a.length ca) := (hb1.cell (World.block_lt_of_cell? w _ c0)).trans c0
  have k1 : w1.cell? ⟨B, O + 1, none⟩ = some (.slice bo b.length cb) := (hb1.cell (World.block_lt_of_cell? w _ c1)).trans c1
  refine wp_loop_rounds 3 ?_
  rw [rounds_succ]
  go_wp2_with (first
    | (at_builtin; refine wpList_appendA rfl _ _ rfl w.heap.size _ 0 [] a ao ca rfl hown1 rfl (sa.below hb1) (by omega) ha hb1.size (fun v2 w2 hown2 hgr2 hnil2 => ?_)))
  have hb2 := hb1.grown hgr2 hb1.size (fun j hj => (hown1.lt j hj).1)
  have k2 : w2.cell? ⟨B, O + 1, none⟩ = some (.slice bo b.length cb) := (hb2.cell (World.block_lt_of_cell? w _ c1)).trans c1
  rw [rounds_succ]
  go_wp2_with (first
    | (at_builtin; refine wpList_appendA rfl _ _ rfl w.heap.size _ (0 + a.length) _ b bo cb rfl hown2 rfl (sb.below hb2) (by omega) hb hb2.size (fun v3 w3 hown3 hgr3 hnil3 => ?_)))
  have hb3 := hb2.grown hgr3 hb2.size (fun j hj => (hown2.lt j hj).1)
  rw [rounds_succ]
  go_wp2
  go_ret
  refine ⟨v3, rfl, ?_, hb3, fun e => ?_⟩
  · rw [List.flatMap_append, List.length_append]
    simpa using hown3
  · have e1 : a = [] := (List.append_eq_nil_iff.1 e).1
    have e2 : b = [] := (List.append_eq_nil_iff.1 e).2
    subst e1
    subst e2
    exact hnil3.2 ⟨hnil2.2 ⟨hn1 rfl, rfl⟩, rfl⟩
end Go.Proofs.V.R10
namespace Go.Proofs.W.Q10
open Go Go.Proofs Go.Proofs.V Go.Proofs.V.U10 Go.Proofs.V.R10 Go.Proofs.W Go.RowKit
set_option linter.unusedVariables false
set_option linter.unusedSimpArgs false
set_option maxRecDepth 100000
theorem flatten_at : ∀ {rows : List (List Value)} {sz : Nat} (hsz : ∀ r ∈ rows, r.length = sz) {i j : Nat} {r : List Value} {u : Value}, rows[i]? = some r → r[j]? = some u → rows.flatten[i * sz + j]? = some u
  | [], _, _, i, j, r, u, h, _ => by simp at h
  | a :: rows, sz, hsz, 0, j, r, u, h, k => by
    simp at h
    subst h
    rw [List.flatten_cons, Nat.zero_mul, Nat.zero_add, List.getElem?_append_left (List.getElem?_eq_some_iff.1 k).1]
    exact k
  | a :: rows, sz, hsz, i + 1, j, r, u, h, k => by
    have ha := hsz a (by simp)
    rw [List.flatten_cons, Nat.add_mul, List.getElem?_append_right (by rw [ha]; omega), ha]
    have := flatten_at (rows := rows) (fun r hr => hsz r (List.mem_cons_of_mem _ hr)) (i := i) (j := j) (by simpa using h) k
    rw [← this]
    congr 1
    omega
theorem cellAt_at {rows : List (List Value)} {i j : Nat} {x : AV} (h : cellAt (rows.map (·.map AV.at)) i j = some x) : ∃ r u, rows[i]? = some r ∧ r[j]? = some u ∧ x = .at u := by
  unfold cellAt at h
  rw [List.getElem?_map] at h
  cases hr : rows[i]? with
  | none => rw [hr] at h; cases h
  | some r =>
    rw [hr] at h
    have h : (r.map AV.at)[j]? = some x := h
    rw [List.getElem?_map] at h
    cases hu : r[j]? with
    | none => rw [hu] at h; cases h
    | some u => rw [hu] at h; cases h; exact ⟨r, u, rfl, hu, rfl⟩
/-- Rows of plain values that are one's own. -/
theorem own_rows {w : World} {base e sz : Nat} {v : Value} {rows : List (List Value)} (h : w.ownsRow base e sz v rows.length rows.flatten) (hsz : ∀ r ∈ rows, r.length = sz) (hpl : ∀ r ∈ rows, ∀ u ∈ r, AV.plain (.at u) = true) (hn : rows = [] → v = .slice none 0 0) (S : Addr → Option Value) (E : Nat → Option Nat)
    (hS : ∀ g i u, base ≤ g → w.cell? ⟨g, i, none⟩ = some u → S ⟨g, i, none⟩ = some u) : R1 S E (.slice (rows.map (·.map AV.at)) rows.isEmpty .no) v := by
  cases rows with
  | nil => rw [hn rfl]; exact .nil _
  | cons r0 l0 =>
    rcases h.2 with ⟨_, h0⟩ | ⟨g, cap, cur, hv, hbase, hrest⟩
    · cases h0
    · subst hv
      have cell : ∀ i j x, cellAt ((r0 :: l0).map (·.map AV.at)) i j = some x → ∃ u, x = .at u ∧ AV.plain x = true ∧ w.cell? ⟨g, i * sz + j, none⟩ = some u := by
        intro i j x hx
        obtain ⟨r, u, hr, hu, rfl⟩ := cellAt_at hx
        have h1 := h.cells (g := g) rfl (i * sz + j) u (flatten_at hsz hr hu)
        rw [addr_add] at h1
        exact ⟨u, rfl, hpl r (List.mem_of_getElem? hr) u (List.mem_of_getElem? hu), h1⟩
      have := R1.slice (S := S) (E := E) ((r0 :: l0).map (·.map AV.at)) .no g 0 cap sz (fun i j => ((w.cell? ⟨g, i * sz + j, none⟩).getD default)) (by rw [List.length_map]; exact hrest.2.1)
        (fun r hr => by obtain ⟨q, hq, rfl⟩ := List.mem_map.1 hr; rw [List.length_map]; exact hsz q hq) (fun e => by cases e) (fun i j x hx => by obtain ⟨u, _, h, _⟩ := cell i j x hx; exact h)
        (fun i j x hx => by obtain ⟨u, _, _, hu⟩ := cell i j x hx; rw [Nat.zero_add, hu]; exact hS g _ u hbase hu)
        (fun i j x hx => by obtain ⟨u, rfl, _, hu⟩ := cell i j x hx; rw [hu]; exact .at _)
      rwa [List.length_map] at this
theorem new_rows {w w' : World} {e sz : Nat} {v : Value} {rows : List (List Value)} (h : w'.ownsRow w.heap.size e sz v rows.length rows.flatten) (hsz : ∀ r ∈ rows, r.length = sz) (hpl : ∀ r ∈ rows, ∀ u ∈ r, AV.plain (.at u) = true) (hn : rows = [] → v = .slice none 0 0) (E : Nat → Option Nat) :
    R1 (newCells w w') E (.slice (rows.map (·.map AV.at)) rows.isEmpty .no) v :=
  own_rows h hsz hpl hn _ _ fun g i u hg hu => by
    unfold newCells
    rw [if_neg (by dsimp only; omega)]
    exact hu
abbrev reA : RT := .cons .str (.cons .bool (.one .str))
theorem new_A {w w' : World} {E : Nat → Option Nat} {v : Value} {l : List Acn} (h : w'.ownsRow w.heap.size 52 3 v l.length (l.flatMap cellsA)) (hn : l = [] → v = .slice none 0 0) : R1 (newCells w w') E (.slice (l.map (encR reA)) l.isEmpty .no) v := by
  have := new_rows (rows := l.map cellsA) (w := w) (w' := w') (e := 52) (sz := 3) (v := v) (by rw [List.length_map]; exact h) (fun r hr => by obtain ⟨e, _, rfl⟩ := List.mem_map.1 hr; rfl) (fun r hr u hu => by
    obtain ⟨e, _, rfl⟩ := List.mem_map.1 hr
    simp [cellsA] at hu
    rcases hu with rfl | rfl | rfl <;> rfl) (fun e => hn (by simpa using e)) E
  rw [List.map_map, List.isEmpty_map] at this
  exact this
theorem slA_of_R1 {w : World} {E : Nat → Option Nat} {l : List Acn} {rows : List (List AV)} {nl : Bool} {o : V.Own} {v : Value} (h : R1 (cellsOf w) E (.slice rows nl o) v) (hd : decL reA rows = some l) : SlA w v l := by
  cases h with
  | nil =>
    have : some ([] : List Acn) = some l := hd
    cases this
    exact .inl ⟨rfl, rfl⟩
  | slice rows own b off cap sz val hlen hsz hfull hpl hS hR =>
    have hall : ∀ (rows : List (List AV)) (l : List Acn), decL reA rows = some l → rows = l.map (encR reA) := by
      intro rows
      induction rows with
      | nil => intro l h; cases h; rfl
      | cons row rows ih =>
        intro l h
        simp only [decL, Option.bind_eq_some_iff, Option.map_eq_some_iff] at h
        obtain ⟨x, hx, y, hy, rfl⟩ := h
        rw [ih y hy, encR_R reA x row rfl (dec_R reA row x rfl hx)]
        rfl
    have hrows := hall rows l hd
    subst hrows
    refine .inr ⟨b, off, cap, by rw [List.length_map], by rw [List.length_map] at hlen; exact hlen, ?_⟩
    intro j u hj
    have hlt : j < (l.flatMap cellsA).length := (List.getElem?_eq_some_iff.1 hj).1
    rw [cellsA_len] at hlt
    have hi : j / 3 < l.length := by omega
    have he : l[j / 3]? = some l[j / 3] := List.getElem?_eq_getElem hi
    have h3 : sz = 3 := (hsz (encR reA l[j / 3]) (List.mem_map.2 ⟨_, List.getElem_mem hi, rfl⟩)).symm
    have e1 : j / 3 * 3 + j % 3 = j := by omega
    have h4 : (l.map cellsA).flatten[j / 3 * 3 + j % 3]? = some u := by rw [e1]; exact hj
    have hu : (cellsA l[j / 3])[j % 3]? = some u := by
      have hm : j % 3 < (cellsA l[j / 3]).length := by show j % 3 < 3; omega
      have h5 := flatten_at (rows := l.map cellsA) (sz := 3) (fun r hr => by obtain ⟨e, _, rfl⟩ := List.mem_map.1 hr; rfl) (i := j / 3) (j := j % 3) (by rw [List.getElem?_map, he]; rfl) (List.getElem?_eq_getElem hm)
      rw [h4] at h5
      rw [List.getElem?_eq_getElem hm]
      exact h5.symm
    have hc : cellAt (l.map (encR reA)) (j / 3) (j % 3) = some (.at u) := by
      unfold cellAt
      rw [List.getElem?_map, he]
      have h3' : j % 3 = 0 ∨ j % 3 = 1 ∨ j % 3 = 2 := by omega
      show (encR reA l[j / 3])[j % 3]? = _
      rcases h3' with k | k | k <;> rw [k] at hu ⊢ <;> cases hu <;> rfl
    have k1 := hS _ _ _ hc
    have k2 := hR _ _ _ hc
    have k3 : val (j / 3) (j % 3) = u := by
      generalize val (j / 3) (j % 3) = q at k2
      cases k2; rfl
    rw [k3, h3, e1] at k1
    exact k1
noncomputable def concatExt : List AV → Option AV
  | [.slice [[.slice ra _ _], [.slice rb _ _]] _ _] => (decL reA ra).bind fun a => (decL reA rb).bind fun b => (slices_Concat_Action [a, b]).map fun y => .slice (y.map (encR reA)) y.isEmpty .no
  | _ => none
theorem concat_at {ra rb : List (List AV)} {na nb nl : Bool} {oa ob o : V.Own} {a b y : List Acn} (d1 : decL reA ra = some a) (d2 : decL reA rb = some b) (h : slices_Concat_Action [a, b] = some y) : concatExt [.slice [[.slice ra na oa], [.slice rb nb ob]] nl o] = some (.slice (y.map (encR reA)) y.isEmpty .no) := by
  unfold concatExt
  dsimp only
  rw [d1, d2, Option.bind_some, Option.bind_some, h]
  rfl
theorem concat_csound {xs : List AV} {r : AV} (h : concatExt xs = some r) : CSound Tryz.prog 46 xs [] r [] := by
  unfold concatExt at h
  split at h
  case h_2 => cases h
  rename_i ra na oa rb nb ob nl o
  obtain ⟨a, hd1, h⟩ := Option.bind_eq_some_iff.1 h
  obtain ⟨b, hd2, h⟩ := Option.bind_eq_some_iff.1 h
  obtain ⟨y, hy, rfl⟩ := Option.map_eq_some_iff.1 h
  unfold slices_Concat_Action at hy
  dsimp only at hy
  split at hy
  case isFalse => cases hy
  rename_i hl
  cases hy
  refine csound_walk Tryz.func46 rfl (by kernel_rfl) (fun x hx rows nl o e => ?_) ?_
  · subst e
    simp [parts] at hx
    exact hx.2.2
  · intro w E vs hl' hR
    rcases vs with _ | ⟨v, _ | ⟨_, _⟩⟩ <;> first | (simp at hl'; done) | skip
    have h0 := hR 0 _ _ rfl rfl
    cases h0 with
    | slice rows own b0 off cap sz val hlen hsz hfull hpl hS hR1 =>
      have hs1 : sz = 1 := (hsz [AV.slice ra na oa] (by simp)).symm
      subst hs1
      have q0 := hS 0 0 (.slice ra na oa) rfl
      have q1 := hS 1 0 (.slice rb nb ob) rfl
      have p0 := hR1 0 0 (.slice ra na oa) rfl
      have p1 := hR1 1 0 (.slice rb nb ob) rfl
      refine (concat_calls (w := w) (B := b0) (O := off) (cap := cap) q0 q1 (slA_of_R1 p0 hd1) (slA_of_R1 p1 hd2) hl.1 hl.2).mono ?_
      rintro e w' ⟨v, rfl, ho, hb, hn⟩
      exact ⟨v, rfl, hb, new_A ho hn⟩
theorem dec_slA {x : List Acn} {a : AV} (h : cellR (.sl reA) x a) : ∃ rows nl o, a = .slice rows nl o ∧ decL reA rows = some x := by
  obtain ⟨rows, nl, own, rfl, h, _⟩ := h
  exact ⟨rows, nl, own, rfl, decL_of reA rfl _ _ h⟩
theorem concat_two {x : List (List Acn)} {y : List Acn} (h : slices_Concat_Action x = some y) : ∃ a b : List Acn, x = [a, b] := by
  unfold slices_Concat_Action at h
  split at h
  · rename_i a b
    exact ⟨a, b, rfl⟩
  · cases h
variable {z : Nat → Option (List AV → Option AV)}
theorem s_slices_Concat_Action (hz : z 46 = some concatExt) : FSound (cfgZ z) ⟨⟨46, [.c (.sl (.one (.sl reA)))], [.c (.sl reA)]⟩, slices_Concat_Action⟩ := by
  intro x y hxy xs ha
  have hxy : slices_Concat_Action x = some y := hxy
  obtain ⟨ws, hf, hw⟩ := ha
  cases hf
  rcases xs with _ | ⟨a1, _ | ⟨_, _⟩⟩ <;> first | exact hw.elim | exact hw.2.elim | skip
  have h1 := hw.1
  have hx := concat_two hxy
  obtain ⟨a, b, rfl⟩ := hx
  have h1 : WR Ono g0 (cellW (.sl (.one (.sl reA))) [a, b]) a1 := h1
  cases h1 with
  | sl _ _ _ rows nl own h ho =>
    obtain ⟨h, _⟩ := h
    rcases rows with _ | ⟨q1, _ | ⟨q2, _ | ⟨_, _⟩⟩⟩ <;> first | exact h.elim | exact h.2.elim | exact h.2.2.elim | skip
    obtain ⟨p1, rfl, c1⟩ := h.1
    obtain ⟨p2, rfl, c2⟩ := h.2.1
    obtain ⟨r1, nl1, o1, rfl, d1⟩ := dec_slA c1
    obtain ⟨r2, nl2, o2, rfl, d2⟩ := dec_slA c2
    refine ⟨_, ?_, [cellW (.sl reA) y], [.slice (y.map (encR reA)) y.isEmpty .no], rfl, rfl, ⟨.sl _ _ _ _ _ _ ⟨rows_enc reA rfl y, fun e => ?_⟩ rfl, fun e => by cases e⟩, trivial⟩
    · have he : (cfgZ z).ext 46 = some concatExt := hz
      unfold callQ
      rw [he]
      show concatExt _ = _
      exact concat_at d1 d2 hxy
    · have : y = [] := List.isEmpty_iff.1 e
      rw [this]; rfl
end Go.Proofs.W.Q10
