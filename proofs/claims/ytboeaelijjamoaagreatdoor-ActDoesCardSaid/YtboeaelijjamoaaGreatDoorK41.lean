/- slices.Concat of two rows of actions, walked. -/
import Derived.Test.YtboeaelijjamoaaGreatDoorK40
import Derived.Laws.AppendOwnNone
import Derived.Test.YtboeaelijjamoaaGreatDoorK20
import Derived.Test.YtboeaelijjamoaaGreatDoorK35
namespace Go.Proofs.V.R11
open Go Go.Proofs Go.RowKit Go.Maps Go.Proofs.V Go.Proofs.W Go.Proofs.W.C Go.Proofs.V.U11
set_option linter.unusedVariables false
set_option linter.unusedSimpArgs false
set_option maxRecDepth 100000
/-- Actions in memory. -/
def SlA (w : World) (v : Value) (l : List Ac) : Prop := (v = .slice none 0 0 ∧ l = []) ∨ ∃ b off cap, v = .slice (some ⟨b, off, none⟩) l.length cap ∧ l.length ≤ cap ∧ ∀ j u, (l.flatMap cellsA)[j]? = some u → w.cell? ⟨b, off + j, none⟩ = some u
theorem SlA.below {w w' : World} {v : Value} {l : List Ac} (h : SlA w v l) (hb : Below w.heap.size w w') : SlA w' v l := by
  rcases h with h | ⟨b, off, cap, hv, hc, h⟩
  · exact .inl h
  · exact .inr ⟨b, off, cap, hv, hc, fun j u hu => (hb.cell (World.block_lt_of_cell? w _ (h j u hu))).trans (h j u hu)⟩
theorem SlA.len {w : World} {v : Value} {l : List Ac} (h : SlA w v l) : ∃ ao cap, v = .slice ao l.length cap := by
  rcases h with ⟨rfl, rfl⟩ | ⟨b, off, cap, rfl, _⟩
  · exact ⟨none, 0, rfl⟩
  · exact ⟨_, cap, rfl⟩
theorem info33 : (Tryz.prog.info? 41).map (fun i => (i.zero, i.size, i.bytes)) = some (some (.agg #[.string ByteArray.empty, .bool false, .string ByteArray.empty]), 3, 40) := by kernel_rfl
theorem grow_calls (n : Nat) (hn : n ≤ 3000) (w : World) : Calls Tryz.prog 44 #[.slice none 0 0, .int .i64 n] w fun e w' => ∃ v, e = .returned v ∧ w'.ownsRow w.heap.size 41 3 v 0 [] ∧ Below w.heap.size w w' ∧ (n = 0 → v = .slice none 0 0) := by
  by_cases h0 : n = 0
  · subst h0
    refine (Any8.slices_Grow_room Tryz.grow54 none 0 0 0 w (Nat.le_refl _) (by decide) (by decide) (by decide)).mono ?_
    rintro e w' ⟨rfl, rfl⟩
    exact ⟨_, rfl, World.ownsRow_nil _ _ _ _, Below.refl _ _, fun _ => rfl⟩
  · obtain ⟨i0, hi, hz0, hz1, hz2⟩ := info_parts info33
    refine (Any8.slices_Grow_grow Tryz.grow54 i0 _ hi hz0 (by omega) none 0 0 n [] w (Nat.le_refl _) (by omega) (by rw [hz2]; omega) (by omega) (by simp) (fun _ => rfl) (fun a h => by cases h)).mono ?_
    rintro e w' ⟨rfl, rfl⟩
    refine ⟨_, rfl, ?_, ((Below.refl _ _).drew).alloc (by simp) _, fun h => absurd h h0⟩
    refine World.ownsRow_made w.drew _ _ (by simp) (grownCap_le_maxLen _ _ _ _ (by unfold maxLen; omega)) ?_
    have e33 : Tryz.grow54_ren.t 25 = 41 := by kernel_rfl
    have := grownCap_ge w (0 + n) 0 41
    rw [e33]
    simp [Builtin.zeroCells, Value.cells]
    simp at this
    omega
theorem oneCellsA (l : List Ac) : ∀ u ∈ l.flatMap cellsA, u.oneCell' = true := by
  intro u hu
  obtain ⟨e, _, hu⟩ := List.mem_flatMap.1 hu
  simp [cellsA] at hu
  rcases hu with rfl | rfl | rfl <;> rfl
theorem wpList_appendA {w : World} {ops : Array Oper} {rest : List Oper} {o : Oper} {a : Act} {Q : Exit → Act → World → Prop} (hgd : o.guard = none) (s x : Operand)
    (ho : o.op = .call { callee := .builtin .append, args := #[s, x], argTypes := #[23, 23] }) (base : Nat) (v : Value) (n : Nat) (xs : List Value) (l : List Ac) (ao : Option Addr) (c : Nat) (hs : a.eval s = v) (hown : w.ownsRow base 41 3 v n xs)
    (hx : a.eval x = .slice ao l.length c) (hsl : SlA w (.slice ao l.length c) l) (hn : n ≤ 2000) (hl : l.length ≤ 1000) (hbase : base ≤ w.heap.size)
    (h : ∀ v' w', w'.ownsRow base 41 3 v' (n + l.length) (xs ++ l.flatMap cellsA) → w.grownBy w' v.ownBlock → (v' = .slice none 0 0 ↔ v = .slice none 0 0 ∧ l.length = 0) → wpList Tryz.prog ops Q rest (a.put o.dst v') w') : wpList Tryz.prog ops Q (o :: rest) a w := by
  obtain ⟨i0, hi, hz0, hz1, hz2⟩ := info_parts info33
  rcases hsl with ⟨e, rfl⟩ | ⟨b, off, cap, e, hc, hcells⟩
  · rw [e] at hx
    refine wpList_append_own_none hgd s x 23 ho base 41 i0 3 Tryz.underlying23 hi v n xs hs hown hx (h v w (by simpa using hown) ⟨rfl, rfl, rfl, Nat.le_refl _, fun _ _ _ => rfl⟩ (by simp))
  · rw [e] at hx
    exact wpList_append_own w hgd s x 23 ho base 41 i0 _ 3 40 Tryz.underlying23 hi hz0 hz1 hz2 rfl (by decide) v n xs hs hown ⟨b, off, none⟩ l.length cap (l.flatMap cellsA) hx ((kA.flen) l) (fun j u hu => by rw [Addr.add_lit]; exact hcells j u hu) (oneCellsA l) (by unfold maxLen; omega) (by omega) hbase h
set_option maxRecDepth 100000 in
theorem concat_calls {w : World} {a b : List Ac} {va vb : Value} {B O cap : Nat} (c0 : w.cell? ⟨B, O, none⟩ = some va) (c1 : w.cell? ⟨B, O + 1, none⟩ = some vb) (sa : SlA w va a) (sb : SlA w vb b) (ha : a.length ≤ 1000) (hb : b.length ≤ 1000) :
    Calls Tryz.prog 30 #[.slice (some ⟨B, O, none⟩) 2 cap] w fun e w' => ∃ v, e = .returned v ∧ w'.ownsRow w.heap.size 41 3 v (a ++ b).length ((a ++ b).flatMap cellsA) ∧ Below w.heap.size w w' ∧ (a ++ b = [] → v = .slice none 0 0) := by
  obtain ⟨ao, ca, hva⟩ := sa.len
  obtain ⟨bo, cb, hvb⟩ := sb.len
  subst hva
  subst hvb
  go_enter Tryz.func30, Tryz.ntmps30
  go_wp2
  refine wp_loop_rounds 3 ?_
  have s1 : wrap64 (0 + (a.length : Int)) = (a.length : Int) := by unfold wrap64; omega
  have s2 : wrap64 ((a.length : Int) + (b.length : Int)) = ((a.length + b.length : Nat) : Int) := by unfold wrap64; omega
  have hg := fun wr => grow_calls (a.length + b.length) (by omega) wr
  rw [Int.natCast_add] at hg
  rw [rounds_succ]
  go_wp2
  rw [rounds_succ]
  go_wp2
  rw [rounds_succ]
  go_wp2_with (first
    | (go_at_call 44; refine (hg _).mono ?_; rintro e w1 ⟨vg, rfl, hown1, hb1, hn1⟩))
  have k0 : w1.cell? ⟨B, O, none⟩ = some (.slice ao a.length ca) := (hb1.cell (World.block_lt_of_cell? w _ c0)).trans c0
  have k1 : w1.cell? ⟨B, O + 1, none⟩ = some (.slice bo b.length cb) := (hb1.cell (World.block_lt_of_cell? w _ c1)).trans c1
  refine wp_loop_rounds 3 ?_
  rw [rounds_succ]
  go_wp2_with (first
    | (at_builtin; refine wpList_appendA rfl _ _ rfl w.heap.size _ 0 [] a ao ca rfl hown1 rfl (sa.below hb1) (by omega) ha hb1.size (fun v2 w2 hown2 hgr2 hnil2 => ?_)))
  have hb2 := hb1.grown hgr2 hb1.size (fun j hj => (hown1.lt j hj).1)
  have k2 : w2.cell? ⟨B, O + 1, none⟩ = some (.slice bo b.length cb) := (hb2.cell (World.block_lt_of_cell? w _ c1)).trans c1
  rw [rounds_succ]
  go_wp2_with (first
    | (at_builtin; refine wpList_appendA rfl _ _ rfl w.heap.size _ (0 + a.length) _ b bo cb rfl hown2 rfl (sb.below hb2) (by omega) hb hb2.size (fun v3 w3 hown3 hgr3 hnil3 => ?_)))
  have hb3 := hb2.grown hgr3 hb2.size (fun j hj => (hown2.lt j hj).1)
  rw [rounds_succ]
  go_wp2
  go_ret
  refine ⟨v3, rfl, ?_, hb3, fun e => ?_⟩
  · rw [List.flatMap_append, List.length_append]
    simpa using hown3
  · have e1 : a = [] := (List.append_eq_nil_iff.1 e).1
    have e2 : b = [] := (List.append_eq_nil_iff.1 e).2
    subst e1
    subst e2
    exact hnil3.2 ⟨hnil2.2 ⟨hn1 rfl, rfl⟩, rfl⟩
end Go.Proofs.V.R11
namespace Go.Proofs.V.R11
open Go Go.Proofs Go.RowKit Go.Maps Go.Proofs.V Go.Proofs.W Go.Proofs.W.C Go.Proofs.V.U11
set_option linter.unusedVariables false
set_option linter.unusedSimpArgs false
set_option maxRecDepth 100000
theorem gR_mem (l : List Ac) (q : List UInt8) : (gR l q).isSome = true ↔ q ∈ l.map (·.1) := by
  unfold gR
  rw [List.find?_isSome]
  constructor
  · rintro ⟨x, hx, h⟩
    exact List.mem_map.2 ⟨x, List.mem_reverse.1 hx, by simpa using h⟩
  · intro h
    obtain ⟨x, hx, h⟩ := List.mem_map.1 h
    exact ⟨x, List.mem_reverse.2 hx, by simpa using h⟩
theorem keys_sort {w : World} {b n : Nat} {D : DataW Value} {l : List Ac} {ss : List (List UInt8)} (hD : Reads D (gR l)) (hown : w.ownsMap Tryz.prog 9 RV b n D) (hperm : ss.Perm (strKeys D)) : ss.mergeSort (fun x y => decide (x ≤ y)) = Q10.sortP (l.map (·.1)) := by
  obtain ⟨hf1, hf2⟩ := strKeys_facts hown
  refine Q10.up_eq (Q10.up_of (leB_sorted ss) (((List.mergeSort_perm ss _).trans hperm).nodup_iff.2 hf1)) (Q10.sortP_up _) fun q => ?_
  rw [((List.mergeSort_perm ss _).trans hperm).mem_iff, hf2, hD.h, gR_mem, Q10.sortP_mem]
theorem okActs_facts {l : List Ac} (h : Q11.okActs l = true) : l.length ≤ 1000 ∧ (∀ e ∈ l, e.1.length ≤ 100000) ∧ ∀ e ∈ l, e.2.2.length ≤ 100000 := by
  simp only [Q11.okActs, Bool.and_eq_true, decide_eq_true_eq, List.all_eq_true] at h
  exact ⟨h.1, fun e he => (h.2 e he).1, fun e he => (h.2 e he).2⟩
theorem paths_calls {w : World} {v : Value} {l : List Ac} (hs : SlR reA w v l) (ho : Q11.okActs l = true) :
    Calls Tryz.prog 16 #[v] w fun e w' => ∃ v', e = .returned v' ∧ w'.ownsRow w.heap.size 9 1 v' (Q10.sortP (l.map (·.1))).length ((Q10.sortP (l.map (·.1))).map encStr) ∧ (Q10.sortP (l.map (·.1)) = [] → v' = .slice none 0 0) ∧ Below w.heap.size w w' := by
  obtain ⟨hn, hl, _⟩ := okActs_facts ho
  go_enter Tryz.func16, Tryz.ntmps16
  go_wp2_with (first
    | (go_at_call 29; refine (last_calls hs hn (fun e he => by have := hl e he; unfold maxLen; omega)).mono ?_; rintro e w1 ⟨rfl, ⟨D, hD, hown⟩, hb1⟩; have hsD := size_le hown)
    | (go_at_call 32; refine (callsIn_wide.1 (Tryz.maps_Keys_35 (some w.heap.size) _)).mono ?_; rintro e w2 ⟨rfl, rfl⟩)
    | (go_at_call 31; refine (callsIn_wide.1 (Tryz.slices_Sorted_keys_34_35 w.heap.size l.length D RV w1 hown (by unfold maxLen; omega) (by omega))).mono ?_; rintro e w3 ⟨vS, ss, rfl, hperm, hrow, hnil, hb3⟩))
  go_ret
  have hk := keys_sort hD hown hperm
  have hb13 := hb1.alloc hb1.size (.cells #[.map (some w.heap.size)] 52)
  have hkl : (Q10.sortP (l.map (·.1))).length = ss.length := by rw [← hk]; simp
  rw [hk, ← hkl] at hrow
  refine ⟨vS, rfl, own_base hrow hb13.size, fun e => hnil.2 ?_, hb13.trans (hb3.mono hb13.size)⟩
  rw [e] at hkl
  exact List.length_eq_zero_iff.1 hkl.symm
theorem paths_cells {w : World} {base : Nat} {v : Value} {cs : List (List UInt8)} (h : w.ownsRow base 9 1 v cs.length (cs.map encStr)) {k : Nat} {q : List UInt8} (hk : cs[k]? = some q) : ∃ g cap, v = .slice (some ⟨g, 0, none⟩) cs.length cap ∧ w.cell? ⟨g, k, none⟩ = some (.string ⟨⟨q⟩⟩) := by
  obtain ⟨ao, cv, rfl, hao⟩ := own_form h
  obtain ⟨g, rfl⟩ := hao (by have := (List.getElem?_eq_some_iff.1 hk).1; omega)
  refine ⟨g, cv, rfl, ?_⟩
  rw [h.cellAt k (by have := (List.getElem?_eq_some_iff.1 hk).1; omega), List.getElem?_map, hk]
  rfl
/-- An append of one action to a row of one's own. -/
theorem append_where {w : World} {base n : Nat} {v : Value} {xs : List Value} (hown : w.ownsRow base 41 3 v n xs) {a : Addr} {news : List Value} (hl : news.length = 3) (hnews : ∀ j u, news[j]? = some u → w.cell? (a.add j) = some u) (h1 : ∀ u ∈ news, u.oneCell' = true) (hn : n ≤ 2000) (hbase : base ≤ w.heap.size) (ty : TypeId) :
    ∃ v' w', (Builtin.append_ #[23, 23] ty #[v, .slice (some a) 1 1]).run Tryz.prog w = .ok v' w' ∧ w'.ownsRow base 41 3 v' (n + 1) (xs ++ news) ∧ w.grownBy w' v.ownBlock ∧ (v' ≠ .slice none 0 0) ∧ (v'.ownBlock = v.ownBlock ∨ ∀ k, v'.ownBlock = some k → w.heap.size ≤ k) := by
  obtain ⟨i0, hi0, hz0, hzs, hzb⟩ := info_parts info33
  have hml : maxLen = 9223372036854775807 := rfl
  obtain ⟨v', w', hr, h2, h3, h4⟩ := run_append_own (P := Tryz.prog) w base 23 ty 41 i0 _ 3 40 Tryz.underlying23 hi0 hz0 hzs hzb rfl (by decide) v n xs hown a 1 1 news hl hnews h1 (by omega) (by omega) hbase
  refine ⟨v', w', hr, h2, h3, fun e => by simpa using (h4.1 e).2, ?_⟩
  rcases hown.2 with ⟨rfl, rfl⟩ | ⟨g, cap, cur, rfl, hbg, hg, hnc, hcm, hcs, htake⟩
  · refine .inr fun k hk => ?_
    have h0 : w.ownsRow w.heap.size 41 3 (.slice none 0 0) 0 [] := World.ownsRow_nil _ _ _ _
    obtain ⟨v2, w2, hr2, k2, _⟩ := run_append_own (P := Tryz.prog) w w.heap.size 23 ty 41 i0 _ 3 40 Tryz.underlying23 hi0 hz0 hzs hzb rfl (by decide) _ 0 [] h0 a 1 1 news hl hnews h1 (by omega) (by omega) (Nat.le_refl _)
    rw [hr] at hr2
    cases hr2
    exact (k2.lt k hk).1
  · by_cases hroom : n + 1 ≤ cap
    · have hr2 := run_append_room (P := Tryz.prog) w 23 ty 41 i0 Tryz.underlying23 hi0 g n cap cur hg a 1 1 news (by rw [hzs]; exact hl) hnews h1 hroom (by rw [hzs, hl, hcs]; omega)
      rw [hr] at hr2
      cases hr2
      exact .inl rfl
    · have holds : ∀ j u, xs[j]? = some u → w.cell? ((⟨g, 0, none⟩ : Addr).add j) = some u := hown.cells (g := g) rfl
      have hr2 := run_append_grow (P := Tryz.prog) w 23 ty 41 i0 _ Tryz.underlying23 hi0 hz0 ⟨g, 0, none⟩ n cap xs (by rw [hzs]; exact hown.1) holds a 1 1 news (by rw [hzs]; exact hl) hnews (by omega) (by omega) (by rw [hzb]; exact growslice_fits (by omega) (by omega))
      rw [hr] at hr2
      cases hr2
      exact .inr fun k hk => by cases hk; exact Nat.le_refl _
end Go.Proofs.V.R11
namespace Go.Proofs.V.R11
open Go Go.Proofs Go.RowKit Go.Maps Go.Proofs.V Go.Proofs.W Go.Proofs.W.C Go.Proofs.V.U11
set_option linter.unusedVariables false
set_option linter.unusedSimpArgs false
set_option maxRecDepth 100000
theorem slA_own {w : World} {base : Nat} {v : Value} {l : List Ac} (h : w.ownsRow base 41 3 v l.length (l.flatMap cellsA)) : SlA w v l := by
  rcases h.2 with ⟨rfl, hx⟩ | ⟨g, cap, cur, rfl, hbg, hg, hnc, hcm, hcs, htake⟩
  · refine .inl ⟨rfl, ?_⟩
    cases l with
    | nil => rfl
    | cons a l => simp [cellsA] at hx
  · refine .inr ⟨g, 0, cap, rfl, hnc, fun j u hu => ?_⟩
    have := h.cells (g := g) rfl j u hu
    rw [Addr.add_lit] at this
    exact this
theorem wpList_append1 {w : World} {ops : Array Oper} {rest : List Oper} {o : Oper} {a : Act} {Q : Exit → Act → World → Prop} (hgd : o.guard = none) (s x : Operand)
    (ho : o.op = .call { callee := .builtin .append, args := #[s, x], argTypes := #[23, 23] }) (base : Nat) (v : Value) (n : Nat) (xs : List Value) (hs : a.eval s = v) (hown : w.ownsRow base 41 3 v n xs)
    (ad : Addr) (news : List Value) (hx : a.eval x = .slice (some ad) 1 1) (hl : news.length = 3) (hnews : ∀ j u, news[j]? = some u → w.cell? (ad.add j) = some u) (h1 : ∀ u ∈ news, u.oneCell' = true) (hn : n ≤ 2000) (hbase : base ≤ w.heap.size)
    (h : ∀ v' w', w'.ownsRow base 41 3 v' (n + 1) (xs ++ news) → w.grownBy w' v.ownBlock → v' ≠ .slice none 0 0 → (v'.ownBlock = v.ownBlock ∨ ∀ k, v'.ownBlock = some k → w.heap.size ≤ k) → wpList Tryz.prog ops Q rest (a.put o.dst v') w') : wpList Tryz.prog ops Q (o :: rest) a w := by
  refine wpList_plain hgd fun K' hK' => ?_
  obtain ⟨v', w', hr, h2, h3, h4, h5⟩ := append_where hown (a := ad) hl hnews h1 hn hbase o.type
  unfold Oper.wp execOp
  simp only [ho, resolve, invoke, builtin, Sem.run_bind, Sem.run_pure, Result.andThen_ok, List.map_toArray, List.map_cons, List.map_nil, hs, hx, hr]
  exact hK' _ _ (h v' w' h2 h3 h4 h5)
def zeroA : Ac := ([], (false, []))
theorem zero33 (w : World) : (zeroValue 41).run Tryz.prog w = .ok (valA zeroA) w := Tryz.zeroValue41 w
theorem lastA_eq (l : List Ac) (q : List UInt8) : Q11.lastA l q = (gR l q).getD zeroA := rfl
theorem reads_lastA {D : DataW Value} {l : List Ac} (h : Reads D (gR l)) (q : List UInt8) : D.atKey (.string q) (.held (valA zeroA)) = .held (valA (Q11.lastA l q)) := by
  rw [lastA_eq]
  cases hq : gR l q with
  | none => exact atKey_of_not_has (by rw [h.h, hq]; rfl) _
  | some e => exact h.v q e hq _
theorem wpList_lookA {w : World} {b n : Nat} {D : DataW Value} {l : List Ac} {ops : Array Oper} {rest : List Oper} {o : Oper} {a : Act} {Q : Exit → Act → World → Prop} (hg : o.guard = none) (m x : Operand) (hop : o.op = Op.lookup 52 m x false) (q : List UInt8) (e : Ac) (he : Q11.lastA l q = e)
    (hown : w.ownsMap Tryz.prog 9 RV b n D) (hr : Reads D (gR l)) (hq : q.length ≤ maxLen) (hm : a.eval m = .map (some b)) (hx : a.eval x = .string ⟨⟨q⟩⟩)
    (hK : wpList Tryz.prog ops Q rest (a.put o.dst (.agg #[.string ⟨⟨e.1⟩⟩, .bool e.2.1, .string ⟨⟨e.2.2⟩⟩])) w) : wpList Tryz.prog ops Q (o :: rest) a w := by
  subst he
  refine wpList_plain hg fun K' hK' => ?_
  obtain ⟨v, ps, hrun, hv⟩ := hown.lookup law9 Tryz.underlying52 (zero33 w) (zd := .held (valA zeroA)) (zp := []) rfl (Go.WideMaps.keyOf_string_mk Tryz.underlying9 (s := ⟨⟨q⟩⟩) hq)
  have e : v = valA (Q11.lastA l q) := by
    have hv' : RV v = some (D.atKey (.string q) (.held (valA zeroA)), ps) := hv
    rw [reads_lastA hr] at hv'
    exact (show v = valA (Q11.lastA l q) ∧ ps = [] by simpa [RV] using hv').1
  unfold Oper.wp
  simp [execOp, hop, hm, hx, hrun, Result.andThen, e]
  exact hK' _ _ hK
theorem cell_three (w : World) (o : Obj) (a b c : Value) : ∀ j u, ([a, b, c] : List Value)[j]? = some u → ((w.alloc o).alloc (.cells #[a, b, c] 41)).cell? ((⟨w.heap.size + 1, 0, none⟩ : Addr).add j) = some u := by
  intro j u hu
  have hn := heap_alloc_new (w.alloc o) (.cells #[a, b, c] 41)
  have hs : (w.alloc o).heap.size = w.heap.size + 1 := by simp
  rw [hs] at hn
  rw [Addr.add_lit, Nat.zero_add, row_cell hn j]
  simpa using hu
def dropsN (l : List Ac) (ks : List (List UInt8)) : List Ac := (ks.map (Q11.lastA l)).filter fun a => !a.2.1
def putsN (l : List Ac) (ks : List (List UInt8)) : List Ac := (ks.map (Q11.lastA l)).filter fun a => a.2.1
theorem dropsN_snoc (l : List Ac) (ks : List (List UInt8)) (q : List UInt8) : dropsN l (ks ++ [q]) = dropsN l ks ++ if (Q11.lastA l q).2.1 = true then [] else [Q11.lastA l q] := by
  unfold dropsN
  rw [List.map_append, List.filter_append]
  cases h : (Q11.lastA l q).2.1 <;> simp [h]
theorem putsN_snoc (l : List Ac) (ks : List (List UInt8)) (q : List UInt8) : putsN l (ks ++ [q]) = putsN l ks ++ if (Q11.lastA l q).2.1 = true then [Q11.lastA l q] else [] := by
  unfold putsN
  rw [List.map_append, List.filter_append]
  cases h : (Q11.lastA l q).2.1 <;> simp [h]
theorem netN_eq (l : List Ac) : Q11.netP l = dropsN l (Q10.sortP (l.map (·.1))) ++ putsN l (Q10.sortP (l.map (·.1))) := rfl
theorem dropsN_le (l : List Ac) (ks : List (List UInt8)) : (dropsN l ks).length ≤ ks.length := by
  unfold dropsN
  exact Nat.le_trans (List.length_filter_le _ _) (by simp)
theorem putsN_le (l : List Ac) (ks : List (List UInt8)) : (putsN l ks).length ≤ ks.length := by
  unfold putsN
  exact Nat.le_trans (List.length_filter_le _ _) (by simp)
theorem sortP_le (l : List (List UInt8)) : (Q10.sortP l).length ≤ l.length := Q10.sortP_len l
set_option maxHeartbeats 4000000 in
theorem net_calls {w : World} {v : Value} {l : List Ac} (hs : SlR reA w v l) (ho : Q11.okActs l = true) :
    Calls Tryz.prog 13 #[v] w fun e w' => ∃ v', e = .returned v' ∧ w'.ownsRow w.heap.size 41 3 v' (Q11.netP l).length ((Q11.netP l).flatMap cellsA) ∧ (Q11.netP l = [] → v' = .slice none 0 0) ∧ Below w.heap.size w w' := by
  obtain ⟨hn, hl, _⟩ := okActs_facts ho
  obtain ⟨ao, ca, rfl⟩ := SlR.len kA hs
  rw [netN_eq]
  have hql : ∀ q ∈ Q10.sortP (l.map (·.1)), q.length ≤ maxLen := fun q hq => by
    obtain ⟨e, he, rfl⟩ := List.mem_map.1 ((Q10.sortP_mem _ _).1 hq)
    have := hl e he
    unfold maxLen; omega
  have hkl : (Q10.sortP (l.map (·.1))).length ≤ 1000 := by have := sortP_le (l.map (·.1)); simp at this; omega
  generalize hks : Q10.sortP (l.map (·.1)) = ks at *
  go_enter Tryz.func13, Tryz.ntmps13
  go_wp2_with (first
    | (go_at_call 29; refine (last_calls hs hn (fun e he => by have := hl e he; unfold maxLen; omega)).mono ?_; rintro e w1 ⟨rfl, ⟨D, hD, hown⟩, hb1⟩)
    | (go_at_call 16; refine (paths_calls (hs.below hb1) ho).mono ?_; rintro e w2 ⟨vS, rfl, hrowS, hnilS, hb2⟩; rw [hks] at hrowS; obtain ⟨aS, cS, rfl, hao⟩ := own_form hrowS))
  have hb12 := hb1.trans (hb2.mono hb1.size)
  have hs12 : w.heap.size ≤ w2.heap.size := hb12.size
  have hown2 := hown.kept (grown_of hb2) (by simp)
  clear hown hb1 hb2
  go_loopw [14, 3, 4] (fun c vd vp wr => ∃ k : Nat, k ≤ ks.length ∧ c = .int .i64 k ∧ wr.ownsRow w2.heap.size 41 3 vd (dropsN l (ks.take k)).length ((dropsN l (ks.take k)).flatMap cellsA) ∧ wr.ownsRow w2.heap.size 41 3 vp (putsN l (ks.take k)).length ((putsN l (ks.take k)).flatMap cellsA) ∧ (vd.ownBlock = none ∨ vd.ownBlock ≠ vp.ownBlock) ∧ Below w2.heap.size w2 wr)
    (fun c _ _ _ => ks.length - (RowKit.intOf c).toNat)
  case atStart => exact ⟨0, Nat.zero_le _, rfl, World.ownsRow_nil _ _ _ _, World.ownsRow_nil _ _ _ _, .inl rfl, Below.refl _ _⟩
  case round =>
    obtain ⟨k, hk, rfl, h3, h4, hd, hnx⟩ := hrel
    have ownMap := hown2.kept (grown_of hnx) (by simp)
    by_cases hlt : k < ks.length
    · have hq := List.getElem?_eq_getElem hlt
      have hqm := hql ks[k] (List.getElem_mem hlt)
      have hcell := (paths_cells hrowS hq)
      obtain ⟨g, cap, hveq, hc⟩ := hcell
      cases hveq
      have hc := (hnx.cell (World.block_lt_of_cell? w2 _ hc)).trans hc
      generalize hqe : ks[k] = q at *
      have ht : ks.take (k + 1) = ks.take k ++ [q] := by rw [← hqe, List.take_append_getElem]
      have hd1 := dropsN_snoc l (ks.take k) q
      have hp1 := putsN_snoc l (ks.take k) q
      rw [← ht] at hd1 hp1
      have bd := dropsN_le l (ks.take k)
      have bp := putsN_le l (ks.take k)
      rw [List.length_take] at bd bp
      obtain ⟨p, bb, d, he⟩ : ∃ p bb d, Q11.lastA l q = (p, (bb, d)) := ⟨_, _, _, rfl⟩
      rw [he] at hd1 hp1
      have h3b := (h3.alloc (.cells #[.string ⟨⟨p⟩⟩, .bool bb, .string ⟨⟨d⟩⟩] 41))
      have h4b := (h4.alloc (.cells #[.string ⟨⟨p⟩⟩, .bool bb, .string ⟨⟨d⟩⟩] 41))
      have hbk2 := (hnx.alloc hnx.size (.cells #[.string ⟨⟨p⟩⟩, .bool bb, .string ⟨⟨d⟩⟩] 41))
      have hsz := hnx.size
      cases bb with
      | true =>
        rw [if_pos rfl] at hd1 hp1
        rw [List.append_nil] at hd1
        go_wp2_with (first
          | (at_lookup; refine wpList_lookA rfl _ _ rfl q _ he ownMap hD hqm rfl rfl ?_)
          | (at_builtin; refine wpList_append1 rfl _ _ rfl w2.heap.size u4 _ _ rfl (h4b.alloc _) ⟨wr.heap.size + 1, 0, none⟩ [.string ⟨⟨p⟩⟩, .bool true, .string ⟨⟨d⟩⟩] rfl rfl (cell_three _ _ _ _ _) (fun u hu => by simp at hu; rcases hu with rfl | rfl | rfl <;> rfl) (by omega) (by simp; omega) (fun v7 w7 hrow7 hgr7 hnn7 hor7 => ?_)))
        refine ⟨⟨k + 1, by omega, by go_num, ?_, ?_, ?_, ?_⟩, by simp [RowKit.intOf]; omega⟩
        · rw [hd1]
          exact (h3b.alloc _).kept hgr7 hd
        · rw [hp1, List.flatMap_append, List.length_append]
          simpa [cellsA] using hrow7
        · cases hdo : u3.ownBlock with
          | none => exact .inl rfl
          | some j =>
            refine .inr fun e => ?_
            rcases hor7 with h | h
            · rw [hdo] at hd
              rw [h] at e
              rcases hd with hd | hd
              · cases hd
              · exact hd e
            · have h1 := (h3.lt j hdo).2
              have h2 := h j e.symm
              simp at h2
              omega
        · exact (hbk2.alloc hbk2.size _).grown hgr7 (by simp; omega) (fun j hj => (h4.lt j hj).1)
      | false =>
        rw [if_neg (by simp)] at hd1 hp1
        rw [List.append_nil] at hp1
        go_wp2_with (first
          | (at_lookup; refine wpList_lookA rfl _ _ rfl q _ he ownMap hD hqm rfl rfl ?_)
          | (at_builtin; refine wpList_append1 rfl _ _ rfl w2.heap.size u3 _ _ rfl (h3b.alloc _) ⟨wr.heap.size + 1, 0, none⟩ [.string ⟨⟨p⟩⟩, .bool false, .string ⟨⟨d⟩⟩] rfl rfl (cell_three _ _ _ _ _) (fun u hu => by simp at hu; rcases hu with rfl | rfl | rfl <;> rfl) (by omega) (by simp; omega) (fun v7 w7 hrow7 hgr7 hnn7 hor7 => ?_)))
        refine ⟨⟨k + 1, by omega, by go_num, ?_, ?_, ?_, ?_⟩, by simp [RowKit.intOf]; omega⟩
        · rw [hd1, List.flatMap_append, List.length_append]
          simpa [cellsA] using hrow7
        · rw [hp1]
          refine (h4b.alloc _).kept hgr7 ?_
          cases hpo : u4.ownBlock with
          | none => exact .inl rfl
          | some j =>
            refine .inr fun e => ?_
            rcases hd with hd | hd
            · rw [hd] at e; cases e
            · exact hd (by rw [← e, hpo])
        · cases hdo : v7.ownBlock with
          | none => exact .inl rfl
          | some j =>
            refine .inr fun e => ?_
            rcases hor7 with h | h
            · rw [← h, hdo] at hd
              rcases hd with hd | hd
              · cases hd
              · exact hd e
            · have h1 := (h4.lt j e.symm).2
              have h2 := h j hdo
              simp at h2
              omega
        · exact (hbk2.alloc hbk2.size _).grown hgr7 (by simp; omega) (fun j hj => (h3.lt j hj).1)
    · have hkk : k = ks.length := by omega
      subst hkk
      rw [List.take_length] at h3 h4
      have hsd := slA_own h3
      have hsp := slA_own h4
      have bd := dropsN_le l ks
      have bp := putsN_le l ks
      obtain ⟨a3, c3, rfl, -⟩ := own_form h3
      obtain ⟨a4, c4, rfl, -⟩ := own_form h4
      have hba := (Below.refl wr.heap.size wr).alloc (Nat.le_refl _) (.cells #[.slice a3 (dropsN l ks).length c3, .slice a4 (putsN l ks).length c4] 23)
      go_wp2_with (first
        | (go_at_call 30; refine (concat_calls (a := dropsN l ks) (b := putsN l ks) (by rw [row_cell (heap_alloc_new _ _) 0]; rfl) (by rw [row_cell (heap_alloc_new _ _) 1]; rfl) (hsd.below hba) (hsp.below hba) (by omega) (by omega)).mono ?_; rintro e w5 ⟨v5, rfl, hown5, hb5, hn5⟩))
      go_ret
      refine ⟨v5, rfl, own_base hown5 (by have := hnx.size; simp; omega), hn5, ?_⟩
      exact (hb12.trans (hnx.mono hs12)).trans ((hba.mono (by have := hnx.size; omega)).trans (hb5.mono (by have := hnx.size; simp; omega)))
end Go.Proofs.V.R11
namespace Go.Proofs.W.Q11
open Go Go.Proofs Go.Proofs.V Go.Proofs.V.U11 Go.Proofs.V.R11 Go.Proofs.W Go.Proofs.W.C Go.RowKit
set_option linter.unusedVariables false
set_option linter.unusedSimpArgs false
set_option maxRecDepth 100000
abbrev reP : RT := .one .str
theorem kP : Cells reP 1 (fun p : List UInt8 => [encStr p]) := ⟨rfl, fun x => rfl, fun x => rfl, fun x u hu => by simp at hu; subst hu; rfl⟩
theorem flat_enc (l : List (List UInt8)) : l.flatMap (fun p : List UInt8 => [encStr p]) = l.map encStr := by
  induction l with
  | nil => rfl
  | cons a l ih => simp [ih]
/-- What stands for Paths. -/
noncomputable def pathsExt := wExt [.c (.sl reA)] [.c (.sl reP)] act_Paths (fun _ y => outS reP y)
theorem paths_csound {xs : List AV} {r : AV} (h : pathsExt xs = some r) : CSound Tryz.prog 16 xs [] r [] := by
  refine wExt_csound (a := [.c (.sl reA)]) (rs := [.c (.sl reP)]) (F := act_Paths) (out := fun _ y => outS reP y) Tryz.func16 rfl (by kernel_rfl) (fun _ y => noS (r := reP) y) ?_ h
  intro x y xs w E vs ha hF hl hR
  obtain ⟨v1, rfl, hs⟩ := at1 (c1 := .sl reA) rfl ha hl hR
  have hF : act_Paths x = some y := hF
  unfold act_Paths at hF
  split at hF
  case isFalse => cases hF
  rename_i ho
  cases hF
  refine (paths_calls hs ho).mono ?_
  rintro e w' ⟨v', rfl, hown, hn, hb⟩
  rw [← flat_enc] at hown
  exact ⟨v', rfl, hb, new_cells kP (Nat.le_refl _) hown hn E⟩
/-- What stands for Net. -/
noncomputable def netExt := wExt [.c (.sl reA)] [.c (.sl reA)] act_Net (fun _ y => outS reA y)
theorem net_csound {xs : List AV} {r : AV} (h : netExt xs = some r) : CSound Tryz.prog 13 xs [] r [] := by
  refine wExt_csound (a := [.c (.sl reA)]) (rs := [.c (.sl reA)]) (F := act_Net) (out := fun _ y => outS reA y) Tryz.func13 rfl (by kernel_rfl) (fun _ y => noS (r := reA) y) ?_ h
  intro x y xs w E vs ha hF hl hR
  obtain ⟨v1, rfl, hs⟩ := at1 (c1 := .sl reA) rfl ha hl hR
  have hF : act_Net x = some y := hF
  unfold act_Net at hF
  split at hF
  case isFalse => cases hF
  rename_i ho
  cases hF
  refine (net_calls hs ho).mono ?_
  rintro e w' ⟨v', rfl, hown, hn, hb⟩
  exact ⟨v', rfl, hb, new_cells kA (Nat.le_refl _) hown hn E⟩
/-- What stands for Concat. -/
noncomputable def concatExt := wExt [.c (.sl (.one (.sl reA)))] [.c (.sl reA)] Q10.slices_Concat_Action (fun _ y => outS reA y)
theorem concat_two {x : List (List Ac)} {y : List Ac} (h : Q10.slices_Concat_Action x = some y) : ∃ a b : List Ac, x = [a, b] ∧ a.length ≤ 1000 ∧ b.length ≤ 1000 ∧ y = a ++ b := by
  unfold Q10.slices_Concat_Action at h
  split at h
  · rename_i a b
    split at h
    · rename_i hl
      cases h
      exact ⟨a, b, rfl, hl.1, hl.2, rfl⟩
    · cases h
  · cases h
theorem concat_csound {xs : List AV} {r : AV} (h : concatExt xs = some r) : CSound Tryz.prog 30 xs [] r [] := by
  refine wExt_csound (a := [.c (.sl (.one (.sl reA)))]) (rs := [.c (.sl reA)]) (F := Q10.slices_Concat_Action) (out := fun _ y => outS reA y) Tryz.func30 rfl (by kernel_rfl) (fun _ y => noS (r := reA) y) ?_ h
  intro x y xs w E vs ha hF hl hR
  obtain ⟨a1, rfl, h1⟩ := arg1 (c1 := .sl (.one (.sl reA))) ha
  rcases vs with _ | ⟨v, _ | ⟨_, _⟩⟩ <;> first | (simp at hl; done) | skip
  have h0 := hR 0 _ _ rfl rfl
  obtain ⟨a, b, rfl, la, lb, rfl⟩ := concat_two hF
  obtain ⟨rows, nl, own, rfl, hrows, _⟩ := cellR_of_WR (.sl (.one (.sl reA))) _ _ h1
  rcases rows with _ | ⟨r0, _ | ⟨r1, _ | ⟨_, _⟩⟩⟩ <;> first | exact hrows.elim | exact hrows.2.elim | exact hrows.2.2.elim | skip
  obtain ⟨x0, rfl, g0⟩ := hrows.1
  obtain ⟨x1, rfl, g1⟩ := hrows.2.1
  obtain ⟨ra, na, oa, rfl, ga, _⟩ := g0
  obtain ⟨rb, nb, ob, rfl, gb, _⟩ := g1
  cases h0 with
  | slice rows own b0 off cap sz val hlen hsz hfull hpl hS hR1 =>
    have hs1 : sz = 1 := (hsz [AV.slice ra na oa] (by simp)).symm
    subst hs1
    have q0 := hS 0 0 (.slice ra na oa) rfl
    have q1 := hS 1 0 (.slice rb nb ob) rfl
    have p0 := hR1 0 0 (.slice ra na oa) rfl
    have p1 := hR1 1 0 (.slice rb nb ob) rfl
    refine (concat_calls (w := w) (B := b0) (O := off) (cap := cap) q0 q1 (slR_form kA (slR_of_R1 (r := reA) rfl p0 ga)) (slR_form kA (slR_of_R1 (r := reA) rfl p1 gb)) la lb).mono ?_
    rintro e w' ⟨v, rfl, ho, hb, hn⟩
    exact ⟨v, rfl, hb, new_cells kA (Nat.le_refl _) ho hn E⟩
/-- What stands for Do: an empty tree is nil where it was nil, and nothing was done. -/
def nilD : List AV → Bool
  | .slice _ nl _ :: .slice acts _ _ :: _ => nl && acts.isEmpty
  | _ => true
def outD (xs : List AV) (y : List Fi × Int) : AV := .tup [.slice (y.1.map (encR reF)) (y.1.isEmpty && (decide (y.2 ≠ 0) || nilD xs)) .no, .at (.int .i64 y.2)]
noncomputable def doExt := wExt [.c (.sl reF), .c (.sl reA), .c (.int .i64)] [.c (.sl reF), .c (.int .i64)] act_Do outD
theorem new_F {w w' : World} {base : Nat} (hbase : w.heap.size ≤ base) {v : Value} {l : List Fi} (h : w'.ownsRow base 38 2 v l.length (l.flatMap cellsF)) {nl : Bool} (hn : nl = true → l = []) (hv : v = .slice none 0 0 ↔ nl = true) (E : Nat → Option Nat) :
    R1 (newCells w w') E (.slice (l.map (encR reF)) nl .no) v := by
  cases l with
  | nil =>
    cases nl with
    | true => rw [hv.2 rfl]; exact .nil _
    | false =>
      rcases h.2 with ⟨e, _⟩ | ⟨g, cap, cur, rfl, _⟩
      · exact absurd (hv.1 e) (by decide)
      · exact .slice [] .no g 0 cap 2 (fun _ _ => undef) (Nat.zero_le _) (by simp) (fun e => by cases e) (fun i j x hx => by simp [cellAt] at hx) (fun i j x hx => by simp [cellAt] at hx) (fun i j x hx => by simp [cellAt] at hx)
  | cons a l =>
    have hnl : nl = false := by cases nl with
      | true => exact absurd (hn rfl) (by simp)
      | false => rfl
    subst hnl
    exact new_cells kF hbase h (fun e => by cases e) E
theorem okDo_facts {t : List Fi} {l : List Ac} (h : okDo t l = true) : TB t ∧ l.length ≤ 1000 ∧ ∀ a ∈ l, a.1.length ≤ 1000000 := by
  simp only [okDo, Bool.and_eq_true, decide_eq_true_eq, List.all_eq_true] at h
  obtain ⟨⟨⟨h1, h2⟩, h3⟩, h4⟩ := h
  exact ⟨⟨h1, fun g hg => by have := (h3 g hg).1; omega⟩, h2, fun a ha => by have := (h4 a ha).1; omega⟩
theorem r1_nil {S : Addr → Option Value} {E : Nat → Option Nat} {rows : List (List AV)} {nl : Bool} {o : V.Own} {v : Value} (h : R1 S E (.slice rows nl o) v) : v = .slice none 0 0 ↔ nl = true := by
  cases h with
  | nil => simp
  | slice => simp
theorem done_R {w w' : World} {E : Nat → Option Nat} {xs : List AV} {v : Value} {y : List Fi × Int} (h : w'.ownsRow w.heap.size 38 2 v y.1.length (y.1.flatMap cellsF)) (hv : v = .slice none 0 0 ↔ (y.1.isEmpty && (decide (y.2 ≠ 0) || nilD xs)) = true) :
    R1 (newCells w w') E (outD xs y) (.tuple #[v, .int .i64 y.2]) := by
  refine .tup _ [v, .int .i64 y.2] rfl fun j x u hx hu => ?_
  match j with
  | 0 => cases hx; cases hu; exact new_F (Nat.le_refl _) h (fun e => by simp at e; exact e.1) hv E
  | 1 => cases hx; cases hu; exact .at _
  | j + 2 => simp at hx
theorem do_csound {xs : List AV} {r : AV} (h : doExt xs = some r) : CSound Tryz.prog 7 xs [] r [] := by
  refine wExt_csound (a := [.c (.sl reF), .c (.sl reA), .c (.int .i64)]) (rs := [.c (.sl reF), .c (.int .i64)]) (F := act_Do) (out := outD) Tryz.func7 rfl (by kernel_rfl) (fun xs y x hx rows nl o e => by subst e; simp [parts, outD] at hx; exact hx.2.2) ?_ h
  intro x y xs w E vs ha hF hl hR
  obtain ⟨v1, v2, v3, rfl, s1, s2, s3⟩ := at3 (c1 := .sl reF) (c2 := .sl reA) (c3 := .int .i64) rfl rfl rfl ha hl hR
  obtain ⟨t, l, room⟩ := x
  obtain ⟨a1, a2, a3, rfl, k1, k2, k3⟩ := arg3 (c1 := .sl reF) (c2 := .sl reA) (c3 := .int .i64) ha
  obtain ⟨r1, n1, o1, rfl, g1, m1⟩ := cellR_of_WR (.sl reF) _ _ k1
  obtain ⟨r2, n2, o2, rfl, g2, m2⟩ := cellR_of_WR (.sl reA) _ _ k2
  have e1 := r1_nil (hR 0 _ _ rfl rfl)
  have hlen : r2.isEmpty = l.isEmpty := by
    cases r2 <;> cases l <;> first | rfl | exact g2.elim
  have hemp : n1 = true → t = [] := fun e => by
    have := m1 e
    subst this
    cases t with
    | nil => rfl
    | cons => exact g1.elim
  have hF : act_Do (t, (l, room)) = some y := hF
  unfold act_Do at hF
  split at hF
  case isFalse => cases hF
  rename_i ho
  obtain ⟨tb, hln, hla⟩ := okDo_facts ho
  obtain ⟨b, hr, hF⟩ := Option.bind_eq_some_iff.1 hF
  have s1 : SlR reF w v1 t := s1
  have s2 : SlR reA w v2 l := s2
  cases s3
  have nilOut : ∀ w', R1 (newCells w w') E (outD [.slice r1 n1 o1, .slice r2 n2 o2, a3] ([], 0)) (.tuple #[.slice none 0 0, .int .i64 0]) → True := fun _ _ => trivial
  have errOut : ∀ (w' : World) (c : Int), c ≠ 0 → R1 (newCells w w') E (outD [.slice r1 n1 o1, .slice r2 n2 o2, a3] ([], c)) (.tuple #[.slice none 0 0, .int .i64 c]) := fun w' c hc =>
    done_R (y := ([], c)) (World.ownsRow_nil _ _ _ _) (by simp [hc])
  cases b with
  | false =>
    rw [if_pos (by simp)] at hF
    cases hF
    refine (do_one s1 hr).mono ?_
    rintro e w' ⟨rfl, hb⟩
    exact ⟨_, rfl, hb, errOut w' 1 (by decide)⟩
  | true =>
    rw [if_neg (by simp)] at hF
    obtain ⟨zz, hz, hF⟩ := Option.bind_eq_some_iff.1 hF
    have okv : ∀ v' : Value, (v' = .slice none 0 0 ↔ l = [] ∧ v1 = .slice none 0 0) → zz.2 = 0 → (v' = .slice none 0 0 ↔ (zz.1.isEmpty && (decide (zz.2 ≠ 0) || nilD [.slice r1 n1 o1, .slice r2 n2 o2, a3])) = true) := by
      intro v' hv' hz0
      rw [hv', e1, hz0]
      simp only [nilD, hlen]
      constructor
      · rintro ⟨rfl, rfl⟩
        rw [doAll] at hz
        cases hz
        simp [hemp rfl]
      · intro h
        simp at h
        exact ⟨h.2.2, h.2.1⟩
    rcases slR_form kA s2 with ⟨rfl, rfl⟩ | ⟨B, O, cap, rfl, hc, hcells⟩
    · rw [doAll] at hz
      cases hz
      rw [if_pos rfl] at hF
      obtain ⟨n, hzn, hF⟩ := Option.bind_eq_some_iff.1 hF
      refine (do_nil (room := room) s1 tb hr hzn).mono ?_
      rintro e w' ⟨hb, ⟨hlt, rfl⟩ | ⟨hlt, v', rfl, hown, hv'⟩⟩
      · rw [if_pos hlt] at hF
        cases hF
        exact ⟨_, rfl, hb, errOut w' 2 (by decide)⟩
      · rw [if_neg hlt] at hF
        cases hF
        exact ⟨_, rfl, hb, done_R hown (okv v' (hv'.trans (by simp)) rfl)⟩
    · obtain ⟨n, hzn⟩ : ∃ n, zz.2 = 0 → tree_Size zz.1 = some n := by
        by_cases h0 : zz.2 = 0
        · rw [if_pos h0] at hF
          obtain ⟨n, hzn, _⟩ := Option.bind_eq_some_iff.1 hF
          exact ⟨n, fun _ => hzn⟩
        · exact ⟨0, fun h => absurd h h0⟩
      refine (do_two (room := room) s1 hcells tb hln hc hla hr hz hzn).mono ?_
      rintro e w' ⟨hb, ⟨h0, rfl⟩ | ⟨h0, hlt, rfl⟩ | ⟨h0, hlt, v', rfl, hown, hv'⟩⟩
      · rw [if_neg h0] at hF
        cases hF
        exact ⟨_, rfl, hb, errOut w' zz.2 h0⟩
      · rw [if_pos h0, hzn h0, Option.bind_some, if_pos hlt] at hF
        cases hF
        exact ⟨_, rfl, hb, errOut w' 2 (by decide)⟩
      · rw [if_pos h0, hzn h0, Option.bind_some, if_neg hlt] at hF
        cases hF
        have := okv v' hv' h0
        rw [h0] at this
        exact ⟨_, rfl, hb, done_R (y := (zz.1, 0)) hown this⟩
variable {z : Nat → Option (List AV → Option AV)}
structure ZOk (z : Nat → Option (List AV → Option AV)) : Prop where
  d : z 7 = some doExt
  p : z 16 = some pathsExt
  n : z 13 = some netExt
  c : z 30 = some concatExt
theorem s_act_Do (hz : z 7 = some doExt) : FSound (cfgZ z) ⟨⟨7, [.c (.sl reF), .c (.sl reA), .c (.int .i64)], [.c (.sl reF), .c (.int .i64)]⟩, act_Do⟩ :=
  wExt_fsound hz inj3 fun xs (y : List Fi × Int) => ⟨[cellW (.sl reF) y.1, cellW (.int .i64) y.2], [.slice (y.1.map (encR reF)) (y.1.isEmpty && (decide (y.2 ≠ 0) || nilD xs)) .no, .at (.int .i64 y.2)], rfl, rfl,
    ⟨.sl _ _ _ _ _ _ ⟨rows_enc reF rfl y.1, fun e => by simp at e; rw [e.1]; rfl⟩ rfl, fun e => by cases e⟩, ⟨.int _ _ _, fun e => by cases e⟩, trivial⟩
theorem s_act_Paths (hz : z 16 = some pathsExt) : FSound (cfgZ z) ⟨⟨16, [.c (.sl reA)], [.c (.sl reP)]⟩, act_Paths⟩ := wExt_fsound hz inj1 fun _ y => resS (by rfl) y
theorem s_act_Net (hz : z 13 = some netExt) : FSound (cfgZ z) ⟨⟨13, [.c (.sl reA)], [.c (.sl reA)]⟩, act_Net⟩ := wExt_fsound hz inj1 fun _ y => resS (by rfl) y
/-- What stands for the walked functions. -/
noncomputable def zS (n : Nat) : Option (List AV → Option AV) := if n = 7 then some doExt else if n = 16 then some pathsExt else if n = 13 then some netExt else if n = 30 then some concatExt else none
theorem zS_sound : ∀ g s xs r, zS g = some s → s xs = some r → CSound Tryz.prog g xs [] r [] := by
  intro g s xs r hg hs
  unfold zS at hg
  split at hg
  · rename_i h; subst h; cases hg; exact do_csound hs
  · split at hg
    · rename_i h; subst h; cases hg; exact paths_csound hs
    · split at hg
      · rename_i h; subst h; cases hg; exact net_csound hs
      · split at hg
        · rename_i h; subst h; cases hg; exact concat_csound hs
        · cases hg
theorem okS : C.Ok (cfgZ zS) := ⟨mixed, ext_ok zS_sound⟩
end Go.Proofs.W.Q11
