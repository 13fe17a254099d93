/- slices.Clone of files, slices.Delete of one file, walked; slices.Insert in one theorem. -/
import Derived.Test.YtboeaelijjamoaaGreatDoorK36
import Derived.Test.YtboeaelijjamoaaGreatDoorK20
import Derived.Deep.RegionLaw
import Derived.Test.YtboeaelijjamoaaGreatDoorK33
namespace Go.Proofs.V.R11
open Go Go.Proofs Go.RowKit Go.Lib Go.Proofs.V Go.Proofs.W Go.Proofs.W.C Go.Proofs.V.U11
set_option linter.unusedVariables false
set_option linter.unusedSimpArgs false
set_option maxRecDepth 100000
theorem kF : Cells reF 2 cellsF := ⟨rfl, fun x => rfl, fun x => rfl, fun x u hu => by simp [cellsF] at hu; rcases hu with rfl | rfl <;> rfl⟩
theorem oneF (l : List Fi) : ∀ u ∈ l.flatMap cellsF, u.oneCell' = true := by
  intro u hu
  obtain ⟨e, _, hu⟩ := List.mem_flatMap.1 hu
  simp [cellsF] at hu
  rcases hu with rfl | rfl <;> rfl
theorem clone_calls {w : World} {v : Value} {t : List Fi} (hs : SlR reF w v t) (hn : t.length ≤ 1000) :
    Calls Tryz.prog 19 #[v] w fun e w' => ∃ v', e = .returned v' ∧ w'.ownsRow w.heap.size 38 2 v' t.length (t.flatMap cellsF) ∧ Below w.heap.size w w' ∧ (v' = .slice none 0 0 ↔ v = .slice none 0 0) := by
  obtain ⟨i0, hi0, hz0, hzs, hzb⟩ := info_parts info54
  have q22 : ∀ (w : World) (a : Option Addr) (n c n' c' : Nat), (binOp .eql 22 (.slice a n c) (.slice none n' c')).run Tryz.prog w = .ok (.bool a.isNone) w := fun w a n c n' c' => Lib.run_eql_slice_nil w _ _ a n c n' c' Tryz.underlying22
  rcases slR_form kF hs with ⟨rfl, rfl⟩ | ⟨b, off, cap, rfl, hc, hR⟩
  · go_enter Tryz.func19, Tryz.ntmps19
    go_wp2
    go_ret
    exact ⟨_, rfl, World.ownsRow_nil _ _ _ _, Below.refl _ _, by simp⟩
  · go_enter Tryz.func19, Tryz.ntmps19
    go_wp2_with (first
      | (at_builtin; refine wpList_append_own _ rfl _ _ 22 rfl w.heap.size 38 i0 _ 2 32 Tryz.underlying22 hi0 hz0 hzs hzb rfl (by decide) (.slice (some ⟨w.heap.size, 0, none⟩) 0 0) 0 [] rfl (World.ownsRow_made w #[] 0 (Nat.le_refl _) (Nat.zero_le _) rfl) ⟨b, off, none⟩ t.length cap (t.flatMap cellsF) rfl (kF.flen t) (fun j u hj => by rw [Addr.add_lit]; exact Lib.cell?_alloc_some _ (hR j u hj)) (oneF t) (by unfold maxLen; omega) (by omega) (by simp) (fun v' w1 hown hgrow hnil => ?_)))
    go_ret
    exact ⟨v', rfl, by simpa using hown, ((Below.refl _ w).alloc (Nat.le_refl _) _).grown hgrow (by simp) (fun k hk => by have h1 : some w.heap.size = some k := hk; cases h1; exact Nat.le_refl _), ⟨fun e => absurd (hnil.1 e).1 (by simp), fun e => by cases e⟩⟩
theorem step_append_runI {P : Program} {ops : Array Oper} {o : Oper} {a : Act} {w : World} {K : Act → World → Prop} {Q : Exit → Act → World → Prop} {E : Prop}
    (hg : o.guard = none) (d x : Operand) (dT sT : TypeId) (hop : o.op = Op.call { callee := Callee.builtin Builtin.append, args := #[d, x], argTypes := #[dT, sT] })
    (v u : Value) (hd : a.eval d = v) (hx : a.eval x = u) {v' : Value} {w' : World} (hr : (Builtin.append_ #[dT, sT] o.type #[v, u]).run P w = .ok v' w') (hK : K (a.put o.dst v') w') :
    if Region.wanted o (yielded ops a.tmps) = true then Oper.wp P o a w K Q else E := by
  have hw : Region.wanted o (yielded ops a.tmps) = true := by simp [Region.wanted, hg]
  rw [if_pos hw]
  unfold Oper.wp
  simp [execOp, hop, resolve, invoke, builtin, hd, hx, hr, Result.andThen]
  exact hK
theorem run_clear_one {P : Program} (w : World) (t e ty : TypeId) (z : Value) (k g o c : Nat) (cur : Array Value) (ht : P.underlying t = some (.slice e)) (hv : ∀ w, (zeroValue e).run P w = .ok z w) (hz : z.cells.size = k) (h1 : ∀ v ∈ z.cells.toList, v.oneCell' = true)
    (hg : w.heap[g]? = some (.cells cur e (0, 0))) (hfit : o + k ≤ cur.size) :
    (Builtin.clear_ #[t] ty #[.slice (some ⟨g, o, none⟩) 1 c]).run P w = .ok (.tuple #[]) (w.setRow g (cur.toList.take o ++ z.cells.toList ++ cur.toList.drop (o + k)).toArray) := by
  have hzc : (Builtin.zeroCells z.cells 1).toList = z.cells.toList := by
    simp only [Builtin.zeroCells]
    apply List.ext_getElem
    · simp
    · intro i h1 h2
      have h3 : i < z.cells.size := by simpa using h2
      simp [Nat.mod_eq_of_lt h3]
      exact getElem!_pos z.cells i h3
  have hst := run_storeCells_at P g o e z.cells.toList 0 cur w hg (by simp; omega) h1
  simp only [Nat.add_zero, Array.length_toList, hz] at hst
  simp [Builtin.clear_, run_underlying ht, hv, hzc, hst]
set_option maxHeartbeats 4000000 in
theorem delete_calls {w : World} {base n i : Nat} {v : Value} {xs : List Value} (hown : w.ownsRow base 38 2 v n xs) (hi : i < n) (hn : n ≤ 2000) (h1 : ∀ u ∈ xs, u.oneCell' = true) :
    Calls Tryz.prog 52 #[v, .int .i64 i, .int .i64 ((i : Int) + 1)] w fun e w' => ∃ v', e = .returned v' ∧ w'.ownsRow base 38 2 v' (n - 1) (xs.take (i * 2) ++ xs.drop ((i + 1) * 2)) ∧ Below base w w' ∧ v' ≠ .slice none 0 0 := by
  have mixed : Tryz.prog.follows .mixedOrders = true := by kernel_rfl
  obtain ⟨i0, hi0, hz0, hzs, hzb⟩ := info_parts info54
  rcases hown.2 with ⟨_, h0⟩ | ⟨g, cap, cur, rfl, hbase, hg, hnc, hm, hsz, htake⟩
  · omega
  have hml : maxLen = 9223372036854775807 := rfl
  have hxl : xs.length = n * 2 := hown.1
  have hz2 : ¬ ((i : Int) = (i : Int) + 1) := by omega
  obtain ⟨news, hnews⟩ : ∃ news, news = xs.drop ((i + 1) * 2) := ⟨_, rfl⟩
  have hnl : news.length = (n - (i + 1)) * 2 := by rw [hnews, List.length_drop, hxl]; omega
  have hn1 : ∀ u ∈ news, u.oneCell' = true := fun u hu => h1 u (by rw [hnews] at hu; exact List.mem_of_mem_drop hu)
  have hxc : ∀ j u, xs[j]? = some u → w.cell? ⟨g, j, none⟩ = some u := fun j u h => by
    have hj : j < n * 2 := by have := (List.getElem?_eq_some_iff.1 h).1; omega
    rw [row_cell hg, ← Array.getElem?_toList, ← h, ← htake, List.getElem?_take, if_pos hj]
  obtain ⟨A, hA, hsrc⟩ : ∃ A : Addr, (if cap = i + 1 then some (⟨g, 0, none⟩ : Addr) else some ⟨g, (i + 1) * 2, none⟩) = some A ∧ Hid (∀ j u, news[j]? = some u → w.drew.cell? (A.add j) = some u) := by
    by_cases h : cap = i + 1
    · refine ⟨⟨g, 0, none⟩, by simp [h], fun j u hu => ?_⟩
      have h0 : news.length = 0 := by rw [hnl]; omega
      rw [List.length_eq_zero_iff.1 h0] at hu
      simp at hu
    · refine ⟨⟨g, (i + 1) * 2, none⟩, by simp [h], fun j u hu => ?_⟩
      rw [Addr.add_lit]
      rw [hnews, List.getElem?_drop] at hu
      exact hxc _ u hu
  obtain ⟨R, hR⟩ : ∃ R, R = cur.toList.take (i * 2) ++ news ++ cur.toList.drop (i * 2 + news.length) := ⟨_, rfl⟩
  have hap : ∀ ty c, (Builtin.append_ #[22, 22] ty #[.slice (some ⟨g, 0, none⟩) i cap, .slice (some A) (n - (i + 1)) c]).run Tryz.prog w.drew = .ok (.slice (some ⟨g, 0, none⟩) (i + (n - (i + 1))) cap) (w.drew.setRow g R.toArray) := fun ty c => by
    have := run_append_room (P := Tryz.prog) w.drew 22 ty 38 i0 Tryz.underlying22 hi0 g i cap cur hg A (n - (i + 1)) c news (by rw [hzs]; exact hnl) hsrc.out hn1 (by omega) (by rw [hzs, hnl, hsz]; omega)
    rw [hzs] at this
    rw [hR]
    exact this
  have hRl : R.length = cap * 2 := by rw [hR]; simp [hnl, hsz]; omega
  have hRt : R.take ((n - 1) * 2) = xs.take (i * 2) ++ news := by
    rw [hR, List.take_append_of_le_length (by simp [hnl, hsz]; omega), List.take_of_length_le (by simp [hnl, hsz]; omega), ← htake, List.take_take]
    congr 2
    omega
  clear hR
  obtain ⟨W1, hW1⟩ : ∃ W1, W1 = w.drew.setRow g R.toArray := ⟨_, rfl⟩
  have hg1 : W1.heap[g]? = some (.cells R.toArray 38 (0, 0)) := by rw [hW1]; exact setRow_heap w.drew g cur _ 38 _ hg
  have hcl : ∀ ty c, (Builtin.clear_ #[22] ty #[.slice (some ⟨g, (i + (n - (i + 1))) * 2, none⟩) (n - (i + (n - (i + 1)))) c]).run Tryz.prog W1 = .ok (.tuple #[]) (W1.setRow g (R.take ((n - 1) * 2) ++ [Value.string ByteArray.empty, Value.string ByteArray.empty] ++ R.drop ((n - 1) * 2 + 2)).toArray) := fun ty c => by
    have := run_clear_one (P := Tryz.prog) W1 22 38 ty (.agg #[.string ByteArray.empty, .string ByteArray.empty]) 2 g ((n - 1) * 2) c R.toArray Tryz.underlying22 Tryz.zeroValue38 rfl (fun v hv => by simp [Value.cells] at hv; subst hv; rfl) hg1 (by simp [hRl]; omega)
    rw [show i + (n - (i + 1)) = n - 1 by omega, show n - (n - 1) = 1 by omega]
    simpa [Value.cells] using this
  have hfin : ∀ W : World, W = W1.setRow g (R.take ((n - 1) * 2) ++ [Value.string ByteArray.empty, Value.string ByteArray.empty] ++ R.drop ((n - 1) * 2 + 2)).toArray → W.ownsRow base 38 2 (.slice (some ⟨g, 0, none⟩) (i + (n - (i + 1))) cap) (n - 1) (xs.take (i * 2) ++ xs.drop ((i + 1) * 2)) ∧ Below base w W := by
    intro W hW
    refine ⟨⟨by rw [← hnews]; simp [hnl, hxl]; omega, .inr ⟨g, cap, (R.take ((n - 1) * 2) ++ [Value.string ByteArray.empty, Value.string ByteArray.empty] ++ R.drop ((n - 1) * 2 + 2)).toArray, by rw [show i + (n - (i + 1)) = n - 1 by omega], hbase, by rw [hW]; exact setRow_heap W1 g R.toArray _ 38 _ hg1, by omega, hm, by simp [hRl]; omega, ?_⟩⟩, by rw [hW, hW1]; exact below_setRow (below_setRow (Below.refl _ w).drew hbase _) hbase _⟩
    rw [← hnews, ← hRt, List.append_assoc, List.take_append_of_le_length (by simp [hRl]; omega), List.take_take, Nat.min_self]
  have hw1 : IntKind.i64.wrap ((i : Int) + 1) = (i : Int) + 1 := by rw [IntKind.wrap_i64]; omega
  have hb1 : (0 : Int) ≤ (i : Int) + 1 := by omega
  have hin : i ≤ n := by omega
  have htn : ((i : Int) + 1).toNat = i + 1 := by omega
  have hb3 : (i : Int) + 1 ≤ (n : Int) := by omega
  have hb4 : ¬ (cap = i) := by omega
  have hic : i ≤ cap := by omega
  have hjc : i + 1 ≤ cap := by omega
  have hb5 : ¬ (cap = i + (n - (i + 1))) := by omega
  have hb6 : i + (n - (i + 1)) ≤ n := by omega
  have hb7 : ((i : Int) + ((n - (i + 1) : Nat) : Int)).toNat = i + (n - (i + 1)) := by omega
  subst hW1
  clear hnews hxc hg1 hRt hRl hnl hn1 hxl
  go_enter Tryz.func52, Tryz.ntmps52
  go_wp2_with fail
  go_region_law_o (refine step_append_runI rfl (.tmp 22) (.tmp 25) 22 22 rfl (.slice (some ⟨g, 0, none⟩) i cap) (.slice (some A) (n - (i + 1)) (cap - (i + 1))) (by simp [Act.eval, Act.put]) (by simp [Act.eval, Act.put, hA]) (hap _ _) ?_)
  go_wp2
  go_ret
  exact ⟨_, rfl, (hfin _ (by simp)).1, (hfin _ (by simp)).2, by simp⟩
end Go.Proofs.V.R11
namespace Go.Proofs.V.R11
open Go Go.Proofs Go.RowKit Go.Lib Go.Proofs.V Go.Proofs.W Go.Proofs.W.C Go.Proofs.V.U11
set_option linter.unusedVariables false
set_option linter.unusedSimpArgs false
set_option maxRecDepth 100000
theorem insert_calls {w : World} {base vb n i : Nat} {v : Value} {xs : List Value} (x0 x1 : Value) (hown : w.ownsRow base 38 2 v n xs) (hv : w.heap[vb]? = some (.cells #[x0, x1] 38 (0, 0))) (hne : ∀ k, v.ownBlock = some k → k ≠ vb)
    (hb : base ≤ w.heap.size) (hn : n ≤ 1000) (hi : i ≤ n) (h1 : ∀ u ∈ xs, u.oneCell' = true) (h2 : ∀ v ∈ [x0, x1], v.oneCell' = true) :
    Calls Tryz.prog 55 #[v, .int .i64 i, .slice (some ⟨vb, 0, none⟩) 1 1] w fun e w' => ∃ v', e = .returned v' ∧ w'.ownsRow base 38 2 v' (n + 1) (xs.take (i * 2) ++ [x0, x1] ++ xs.drop (i * 2)) ∧ Below base w w' := by
  have hxl : xs.length = n * 2 := hown.1
  by_cases hin : i = n
  · subst hin
    refine (insert_end x0 x1 hown hv ?_ hb (by omega) h2).mono ?_
    · cases hv' : v.ownBlock with
      | none => exact .inl rfl
      | some k => exact .inr fun e => hne k hv' (Option.some.inj e)
    · rintro e w' ⟨v', rfl, ho, hg⟩
      refine ⟨v', rfl, ?_, (Below.refl _ w).grown hg hb (fun k hk => (hown.lt k hk).1)⟩
      rw [List.take_of_length_le (by omega), List.drop_eq_nil_of_le (by omega), List.append_nil]
      exact ho
  · rcases hown.2 with ⟨_, h0⟩ | ⟨g, cap, cur, rfl, hbase, hg, hnc, hm, hsz, htake⟩
    · omega
    · have hgv : vb ≠ g := fun e => hne g rfl e.symm
      subst htake
      by_cases hroom : n + 1 ≤ cap
      · refine (insert_shift w g n cap i vb cur x0 x1 hg hv hgv (by omega) hroom hm hsz h1 h2).mono ?_
        rintro e w' ⟨rfl, B, rfl, hB, hBt⟩
        refine ⟨_, rfl, ⟨by simp [hsz]; omega, .inr ⟨g, cap, B.toArray, rfl, hbase, setRow_heap w.drew g cur _ 38 _ hg, hroom, hm, by simpa using hB, by simpa using hBt⟩⟩, below_setRow (Below.refl _ w).drew hbase _⟩
      · refine (insert_grow w g n cap i vb cur x0 x1 hg hv hgv (by omega) hnc (by omega) (by omega) hsz h1 h2).mono ?_
        rintro e w' ⟨G, B, rfl, hG, hGm, hB, hBl, hBt, hbel⟩
        exact ⟨_, rfl, ⟨by simp [hsz]; omega, .inr ⟨w.heap.size, G, B.toArray, rfl, hb, hB, hG, hGm, by simpa using hBl, by simpa using hBt⟩⟩, hbel.mono hb⟩
theorem oneS (a b : List UInt8) : ∀ v ∈ [Value.string ⟨⟨a⟩⟩, Value.string ⟨⟨b⟩⟩], v.oneCell' = true := by
  intro v hv
  simp at hv
  rcases hv with rfl | rfl <;> rfl
theorem take_cells (t : List Fi) (k : Nat) : (t.flatMap cellsF).take (k * 2) = (t.take k).flatMap cellsF := by
  induction t generalizing k with
  | nil => simp
  | cons x t ih => cases k with
    | zero => simp
    | succ k => rw [List.take_succ_cons, List.flatMap_cons, List.flatMap_cons, ← ih k, show (k + 1) * 2 = (cellsF x).length + k * 2 by simp [cellsF]; omega, List.take_length_add_append]
theorem drop_cells (t : List Fi) (k : Nat) : (t.flatMap cellsF).drop (k * 2) = (t.drop k).flatMap cellsF := by
  induction t generalizing k with
  | nil => simp
  | cons x t ih => cases k with
    | zero => simp
    | succ k => rw [List.drop_succ_cons, List.flatMap_cons, ← ih k, show (k + 1) * 2 = (cellsF x).length + k * 2 by simp [cellsF]; omega, List.drop_length_add_append]
theorem set_cells (t : List Fi) (k : Nat) (f : Fi) : k < t.length → ((t.flatMap cellsF).set (k * 2) (.string ⟨⟨f.1⟩⟩)).set (k * 2 + 1) (.string ⟨⟨f.2⟩⟩) = (t.set k f).flatMap cellsF := by
  induction t generalizing k with
  | nil => intro h; simp at h
  | cons x t ih => intro h; cases k with
    | zero => simp [cellsF]
    | succ k =>
      have := ih k (by simpa using h)
      rw [List.set_cons_succ, List.flatMap_cons, List.flatMap_cons, ← this]
      have e2 : (cellsF x).length = 2 := rfl
      rw [List.set_append_right _ _ (by omega), List.set_append_right _ _ (by omega), e2, show (k + 1) * 2 - 2 = k * 2 by omega, show (k + 1) * 2 + 1 - 2 = k * 2 + 1 by omega]
/-- Where a path is, in a right tree. -/
theorem place_of {t : List Fi} {p : List UInt8} (hb : ∀ g ∈ t, g.1.length ≤ 1000000) (hr : Q9.tree_Right t = some true) : ∃ (k : Nat) (is : Bool), Q10.tree_place (t, p) = some ((k : Int), is) ∧ k ≤ t.length ∧ (is = true → k < t.length) := by
  have hX := Q10.treeX_fwd hb hr
  have hl := hX.len
  obtain ⟨k, hk, _, hp⟩ := Q10.place_ok (Q10.treeX_asc hX) (by omega) p
  refine ⟨k, _, hp, hk, fun h => ?_⟩
  by_cases h1 : k < t.length
  · exact h1
  · rw [dif_neg h1] at h; cases h
theorem own_base {w : World} {b b' e sz n : Nat} {v : Value} {xs : List Value} (h : w.ownsRow b e sz v n xs) (hb : b' ≤ b) : w.ownsRow b' e sz v n xs := by
  refine ⟨h.1, ?_⟩
  rcases h.2 with h | ⟨g, cap, cur, h1, h2, h3⟩
  · exact .inl h
  · exact .inr ⟨g, cap, cur, h1, Nat.le_trans hb h2, h3⟩
theorem own_nil (w : World) (b e sz : Nat) : w.ownsRow b e sz (.slice none 0 0) ([] : List Fi).length (([] : List Fi).flatMap cellsF) := World.ownsRow_nil _ _ _ _
set_option maxHeartbeats 4000000 in
theorem drop_calls {w : World} {v : Value} {t : List Fi} {p : List UInt8} {y : List Fi × Int} (hs : SlR reF w v t) (hb : ∀ g ∈ t, g.1.length ≤ 1000000) (hn : t.length ≤ 1000) (hy : Q11.tree_Drop t p = some y) :
    Calls Tryz.prog 37 #[v, .string ⟨⟨p⟩⟩] w fun e w' => ∃ v', e = .returned (.tuple #[v', .int .i64 y.2]) ∧ Below w.heap.size w w' ∧ w'.ownsRow w.heap.size 38 2 v' y.1.length (y.1.flatMap cellsF) ∧ (y.2 = 0 → v' ≠ .slice none 0 0) := by
  obtain ⟨r, hr⟩ := Q9.treeRight_ends t hb
  unfold Q11.tree_Drop at hy
  rw [hr, Option.bind_some] at hy
  cases r with
  | false =>
    cases hy
    go_enter Tryz.func37, Tryz.ntmps37
    go_wp2_with (first
      | (go_at_call 18; refine (right_calls hs hr).mono ?_; rintro e w1 ⟨rfl, hb1⟩))
    go_ret2
    exact ⟨_, rfl, hb1, own_nil _ _ _ _, by simp⟩
  | true =>
    rw [if_neg (by simp)] at hy
    obtain ⟨k, is, hp, hk, hki⟩ := place_of (p := p) hb hr
    rw [hp, Option.bind_some] at hy
    cases is with
    | false =>
      cases hy
      go_enter Tryz.func37, Tryz.ntmps37
      go_wp2_with (first
        | (go_at_call 18; refine (right_calls hs hr).mono ?_; rintro e w1 ⟨rfl, hb1⟩)
        | (go_at_call 51; refine (place_calls (hs.below hb1) hp).mono ?_; rintro e w2 ⟨rfl, hb2⟩))
      go_ret2
      exact ⟨_, rfl, hb1.trans (hb2.mono hb1.size), own_nil _ _ _ _, by simp⟩
    | true =>
      have hkl := hki rfl
      rw [if_neg (by simp)] at hy
      cases hy
      have hw1 : IntKind.i64.wrap ((k : Int) + 1) = (k : Int) + 1 := by rw [IntKind.wrap_i64]; omega
      go_enter Tryz.func37, Tryz.ntmps37
      go_wp2_with (first
        | (go_at_call 18; refine (right_calls hs hr).mono ?_; rintro e w1 ⟨rfl, hb1⟩)
        | (go_at_call 51; refine (place_calls (hs.below hb1) hp).mono ?_; rintro e w2 ⟨rfl, hb2⟩)
        | (go_at_call 19; refine (clone_calls (hs.below (hb1.trans (hb2.mono hb1.size))) hn).mono ?_; rintro e w3 ⟨vc, rfl, hown, hb3, -⟩)
        | (go_at_call 52; refine (delete_calls hown hkl (by omega) (oneF t)).mono ?_; rintro e w4 ⟨vd, rfl, hown4, hb4, hnn⟩))
      go_ret2
      have hb12 := hb1.trans (hb2.mono hb1.size)
      refine ⟨_, rfl, (hb12.trans (hb3.mono hb12.size)).trans (hb4.mono hb12.size), ?_, fun _ => hnn⟩
      rw [take_cells, drop_cells, ← List.flatMap_append] at hown4
      have hl : t.length - 1 = (t.take k ++ t.drop (k + 1)).length := by simp; omega
      rw [hl] at hown4
      exact own_base hown4 hb12.size
end Go.Proofs.V.R11
namespace Go.Proofs.V.R11
open Go Go.Proofs Go.RowKit Go.Lib Go.Proofs.V Go.Proofs.W Go.Proofs.W.C Go.Proofs.V.U11
set_option linter.unusedVariables false
set_option linter.unusedSimpArgs false
set_option maxRecDepth 100000
theorem box_cell (w : World) (p : List UInt8) (t : TypeId) : (w.alloc (.cells #[.string ⟨⟨p⟩⟩] t)).cell? ⟨w.heap.size, 0, none⟩ = some (.string ⟨⟨p⟩⟩) := by
  rw [row_cell (heap_alloc_new w _) 0]
  rfl
theorem keep_cell {w w' : World} {a : Addr} {u : Value} (hb : Below w.heap.size w w') (hu : w.cell? a = some u) : w'.cell? a = some u := (hb.cell (World.block_lt_of_cell? w a hu)).trans hu
/-- Early ends. -/
theorem put_one {w : World} {v : Value} {t : List Fi} {p d : List UInt8} (hs : SlR reF w v t) (hr : Q9.tree_Right t = some false) :
    Calls Tryz.prog 38 #[v, .string ⟨⟨p⟩⟩, .string ⟨⟨d⟩⟩] w fun e w' => e = .returned (.tuple #[.slice none 0 0, .int .i64 1]) ∧ Below w.heap.size w w' := by
  have hb0 := (Below.refl w.heap.size w).alloc (Nat.le_refl _) (.cells #[.string ⟨⟨p⟩⟩] 9)
  go_enter Tryz.func38, Tryz.ntmps38
  go_wp2_with (first
    | (go_at_call 18; refine (right_calls (hs.below hb0) hr).mono ?_; rintro e w1 ⟨rfl, hb1⟩))
  go_ret2
  exact ⟨rfl, hb0.trans (hb1.mono hb0.size)⟩
theorem put_two {w : World} {v : Value} {t : List Fi} {p d : List UInt8} {k : Nat} {is : Bool} (hs : SlR reF w v t) (hr : Q9.tree_Right t = some true) (hp : Q10.tree_place (t, p) = some ((k : Int), is)) (hpr : Q9.path_Right p = some false) :
    Calls Tryz.prog 38 #[v, .string ⟨⟨p⟩⟩, .string ⟨⟨d⟩⟩] w fun e w' => e = .returned (.tuple #[.slice none 0 0, .int .i64 6]) ∧ Below w.heap.size w w' := by
  have hb0 := (Below.refl w.heap.size w).alloc (Nat.le_refl _) (.cells #[.string ⟨⟨p⟩⟩] 9)
  have d0 := box_cell w p 9
  go_enter Tryz.func38, Tryz.ntmps38
  go_wp2_with (first
    | (go_at_call 18; refine (right_calls (hs.below hb0) hr).mono ?_; rintro e w1 ⟨rfl, hb1⟩; have d1 := keep_cell hb1 d0; have hb01 := hb0.trans (hb1.mono hb0.size))
    | (go_at_call 51; refine (place_calls (hs.below hb01) hp).mono ?_; rintro e w2 ⟨rfl, hb2⟩; have d2 := keep_cell hb2 d1; have hb02 := hb01.trans (hb2.mono hb01.size))
    | (go_at_call 35; refine (pathRight_calls hpr).mono ?_; rintro e w3 ⟨rfl, hb3⟩))
  go_ret2
  exact ⟨rfl, hb02.trans (hb3.mono hb02.size)⟩
theorem put_three {w : World} {v : Value} {t : List Fi} {p d : List UInt8} {k : Nat} {is : Bool} (hs : SlR reF w v t) (hr : Q9.tree_Right t = some true) (hp : Q10.tree_place (t, p) = some ((k : Int), is)) (hpr : Q9.path_Right p = some true)
    (hc : Q11.slices_ContainsFunc_File_tree_Put_1 (t, p) = some true) :
    Calls Tryz.prog 38 #[v, .string ⟨⟨p⟩⟩, .string ⟨⟨d⟩⟩] w fun e w' => e = .returned (.tuple #[.slice none 0 0, .int .i64 6]) ∧ Below w.heap.size w w' := by
  have hb0 := (Below.refl w.heap.size w).alloc (Nat.le_refl _) (.cells #[.string ⟨⟨p⟩⟩] 9)
  have d0 := box_cell w p 9
  go_enter Tryz.func38, Tryz.ntmps38
  go_wp2_with (first
    | (go_at_call 18; refine (right_calls (hs.below hb0) hr).mono ?_; rintro e w1 ⟨rfl, hb1⟩; have d1 := keep_cell hb1 d0; have hb01 := hb0.trans (hb1.mono hb0.size))
    | (go_at_call 51; refine (place_calls (hs.below hb01) hp).mono ?_; rintro e w2 ⟨rfl, hb2⟩; have d2 := keep_cell hb2 d1; have hb02 := hb01.trans (hb2.mono hb01.size))
    | (go_at_call 35; refine (pathRight_calls hpr).mono ?_; rintro e w3 ⟨rfl, hb3⟩; have d3 := keep_cell hb3 d2; have hb03 := hb02.trans (hb3.mono hb02.size))
    | (go_at_call 36; refine (clash_calls (hs.below hb03) d3 hc).mono ?_; rintro e w4 ⟨rfl, hb4⟩))
  go_ret2
  exact ⟨rfl, hb03.trans (hb4.mono hb03.size)⟩
theorem put_four {w : World} {v : Value} {t : List Fi} {p d : List UInt8} {k : Nat} {is : Bool} (hs : SlR reF w v t) (hr : Q9.tree_Right t = some true) (hp : Q10.tree_place (t, p) = some ((k : Int), is)) (hpr : Q9.path_Right p = some true)
    (hc : Q11.slices_ContainsFunc_File_tree_Put_1 (t, p) = some false) (hd : (600 : Int) < (d.length : Int)) :
    Calls Tryz.prog 38 #[v, .string ⟨⟨p⟩⟩, .string ⟨⟨d⟩⟩] w fun e w' => e = .returned (.tuple #[.slice none 0 0, .int .i64 2]) ∧ Below w.heap.size w w' := by
  have hb0 := (Below.refl w.heap.size w).alloc (Nat.le_refl _) (.cells #[.string ⟨⟨p⟩⟩] 9)
  have d0 := box_cell w p 9
  go_enter Tryz.func38, Tryz.ntmps38
  go_wp2_with (first
    | (go_at_call 18; refine (right_calls (hs.below hb0) hr).mono ?_; rintro e w1 ⟨rfl, hb1⟩; have d1 := keep_cell hb1 d0; have hb01 := hb0.trans (hb1.mono hb0.size))
    | (go_at_call 51; refine (place_calls (hs.below hb01) hp).mono ?_; rintro e w2 ⟨rfl, hb2⟩; have d2 := keep_cell hb2 d1; have hb02 := hb01.trans (hb2.mono hb01.size))
    | (go_at_call 35; refine (pathRight_calls hpr).mono ?_; rintro e w3 ⟨rfl, hb3⟩; have d3 := keep_cell hb3 d2; have hb03 := hb02.trans (hb3.mono hb02.size))
    | (go_at_call 36; refine (clash_calls (hs.below hb03) d3 hc).mono ?_; rintro e w4 ⟨rfl, hb4⟩; have d4 := keep_cell hb4 d3; have hb04 := hb03.trans (hb4.mono hb03.size)))
  go_ret2
  exact ⟨rfl, hb04⟩
theorem put_five {w : World} {ao : Option Addr} {ca : Nat} {t : List Fi} {p d : List UInt8} {k : Nat} (hs : SlR reF w (.slice ao t.length ca) t) (hr : Q9.tree_Right t = some true) (hp : Q10.tree_place (t, p) = some ((k : Int), false)) (hpr : Q9.path_Right p = some true)
    (hc : Q11.slices_ContainsFunc_File_tree_Put_1 (t, p) = some false) (hd : ¬ (600 : Int) < (d.length : Int)) (hl : (16 : Int) ≤ (t.length : Int)) :
    Calls Tryz.prog 38 #[.slice ao t.length ca, .string ⟨⟨p⟩⟩, .string ⟨⟨d⟩⟩] w fun e w' => e = .returned (.tuple #[.slice none 0 0, .int .i64 2]) ∧ Below w.heap.size w w' := by
  have hb0 := (Below.refl w.heap.size w).alloc (Nat.le_refl _) (.cells #[.string ⟨⟨p⟩⟩] 9)
  have d0 := box_cell w p 9
  go_enter Tryz.func38, Tryz.ntmps38
  go_wp2_with (first
    | (go_at_call 18; refine (right_calls (hs.below hb0) hr).mono ?_; rintro e w1 ⟨rfl, hb1⟩; have d1 := keep_cell hb1 d0; have hb01 := hb0.trans (hb1.mono hb0.size))
    | (go_at_call 51; refine (place_calls (hs.below hb01) hp).mono ?_; rintro e w2 ⟨rfl, hb2⟩; have d2 := keep_cell hb2 d1; have hb02 := hb01.trans (hb2.mono hb01.size))
    | (go_at_call 35; refine (pathRight_calls hpr).mono ?_; rintro e w3 ⟨rfl, hb3⟩; have d3 := keep_cell hb3 d2; have hb03 := hb02.trans (hb3.mono hb02.size))
    | (go_at_call 36; refine (clash_calls (hs.below hb03) d3 hc).mono ?_; rintro e w4 ⟨rfl, hb4⟩; have d4 := keep_cell hb4 d3; have hb04 := hb03.trans (hb4.mono hb03.size)))
  go_ret2
  exact ⟨rfl, hb04⟩
end Go.Proofs.V.R11
namespace Go.Proofs.V.R11
open Go Go.Proofs Go.RowKit Go.Lib Go.Proofs.V Go.Proofs.W Go.Proofs.W.C Go.Proofs.V.U11
set_option linter.unusedVariables false
set_option linter.unusedSimpArgs false
set_option maxRecDepth 100000
theorem own_form {w : World} {base e sz n : Nat} {v : Value} {xs : List Value} (h : w.ownsRow base e sz v n xs) : ∃ ao cv, v = .slice ao n cv ∧ (0 < n → ∃ g, ao = some ⟨g, 0, none⟩) := by
  rcases h.2 with ⟨rfl, rfl⟩ | ⟨g, cap, cur, rfl, _⟩
  · exact ⟨none, 0, rfl, fun h => absurd h (by omega)⟩
  · exact ⟨_, cap, rfl, fun _ => ⟨g, rfl⟩⟩
theorem box2_cell (w : World) (a b : Value) (t : TypeId) : (w.alloc (.cells #[a, b] t)).cell? ⟨w.heap.size, 0, none⟩ = some a ∧ (w.alloc (.cells #[a, b] t)).cell? ⟨w.heap.size, 1, none⟩ = some b := by
  rw [row_cell (heap_alloc_new w _) 0, row_cell (heap_alloc_new w _) 1]
  exact ⟨rfl, rfl⟩
set_option maxHeartbeats 4000000 in
theorem put_set {w : World} {ao : Option Addr} {ca : Nat} {t : List Fi} {p d : List UInt8} {k : Nat} (hs : SlR reF w (.slice ao t.length ca) t) (hn : t.length ≤ 1000) (hr : Q9.tree_Right t = some true) (hp : Q10.tree_place (t, p) = some ((k : Int), true)) (hk : k < t.length) (hpr : Q9.path_Right p = some true)
    (hc : Q11.slices_ContainsFunc_File_tree_Put_1 (t, p) = some false) (hd : ¬ (600 : Int) < (d.length : Int)) :
    Calls Tryz.prog 38 #[.slice ao t.length ca, .string ⟨⟨p⟩⟩, .string ⟨⟨d⟩⟩] w fun e w' => ∃ v', e = .returned (.tuple #[v', .int .i64 0]) ∧ Below w.heap.size w w' ∧ w'.ownsRow w.heap.size 38 2 v' (t.set k (p, d)).length ((t.set k (p, d)).flatMap cellsF) := by
  have hb0 := (Below.refl w.heap.size w).alloc (Nat.le_refl _) (.cells #[.string ⟨⟨p⟩⟩] 9)
  have d0 := box_cell w p 9
  have i1 : (0 : Int) ≤ (k : Int) := by omega
  have i2 : (k : Int) < (t.length : Int) := by omega
  go_enter Tryz.func38, Tryz.ntmps38
  go_wp2_with (first
    | (go_at_call 18; refine (right_calls (hs.below hb0) hr).mono ?_; rintro e w1 ⟨rfl, hb1⟩; have d1 := keep_cell hb1 d0; have hb01 := hb0.trans (hb1.mono hb0.size))
    | (go_at_call 51; refine (place_calls (hs.below hb01) hp).mono ?_; rintro e w2 ⟨rfl, hb2⟩; have d2 := keep_cell hb2 d1; have hb02 := hb01.trans (hb2.mono hb01.size))
    | (go_at_call 35; refine (pathRight_calls hpr).mono ?_; rintro e w3 ⟨rfl, hb3⟩; have d3 := keep_cell hb3 d2; have hb03 := hb02.trans (hb3.mono hb02.size))
    | (go_at_call 36; refine (clash_calls (hs.below hb03) d3 hc).mono ?_; rintro e w4 ⟨rfl, hb4⟩; have d4 := keep_cell hb4 d3; have hb04 := hb03.trans (hb4.mono hb03.size))
    | (go_at_call 19; refine (clone_calls (hs.below (hb04.alloc hb04.size (.cells #[.string ⟨⟨p⟩⟩, .string ⟨⟨d⟩⟩] 38))) hn).mono ?_; rintro e w5 ⟨vc, rfl, hown, hb5, -⟩
       have hb45 := hb04.alloc hb04.size (.cells #[.string ⟨⟨p⟩⟩, .string ⟨⟨d⟩⟩] 38)
       have hb05 := hb45.trans (hb5.mono hb45.size)
       obtain ⟨q0, q1⟩ := box2_cell w4 (.string ⟨⟨p⟩⟩) (.string ⟨⟨d⟩⟩) 38
       have q0 := keep_cell hb5 q0
       have q1 := keep_cell hb5 q1
       have hown := hown
       obtain ⟨ac, cv, rfl, hac⟩ := own_form hown
       obtain ⟨g, rfl⟩ := hac (by omega)
       have hxl := hown.1
       have e0 : w5.cell? ⟨g, k * 2, none⟩ = some (t.flatMap cellsF)[k * 2] := (hown.cellAt (k * 2) (by omega)).trans (List.getElem?_eq_getElem (by omega))
       have e1 : w5.cell? ⟨g, k * 2 + 1, none⟩ = some (t.flatMap cellsF)[k * 2 + 1] := (hown.cellAt (k * 2 + 1) (by omega)).trans (List.getElem?_eq_getElem (by omega))
       have z0 : w5.frozen? ⟨g, k * 2, none⟩ = false := hown.frozenAt _
       have z1 : w5.frozen? ⟨g, k * 2 + 1, none⟩ = false := hown.frozenAt _))
  go_ret2
  have hgb : w.heap.size ≤ g := Nat.le_trans hb45.size (hown.lt g rfl).1
  refine ⟨_, rfl, (hb05.setCell hgb _).setCell hgb _, ?_⟩
  have h1 := ((hown.stored (k * 2) (.string ⟨⟨p⟩⟩)).1.stored (k * 2 + 1) (.string ⟨⟨d⟩⟩)).1
  rw [show ((t.flatMap cellsF).set (k * 2) (.string ⟨⟨p⟩⟩)).set (k * 2 + 1) (.string ⟨⟨d⟩⟩) = (t.set k (p, d)).flatMap cellsF from set_cells t k (p, d) hk] at h1
  rw [List.length_set]
  exact own_base h1 hb45.size
set_option maxHeartbeats 4000000 in
theorem put_ins {w : World} {ao : Option Addr} {ca : Nat} {t : List Fi} {p d : List UInt8} {k : Nat} (hs : SlR reF w (.slice ao t.length ca) t) (hn : t.length ≤ 1000) (hr : Q9.tree_Right t = some true) (hp : Q10.tree_place (t, p) = some ((k : Int), false)) (hk : k ≤ t.length) (hpr : Q9.path_Right p = some true)
    (hc : Q11.slices_ContainsFunc_File_tree_Put_1 (t, p) = some false) (hd : ¬ (600 : Int) < (d.length : Int)) (hl : ¬ (16 : Int) ≤ (t.length : Int)) :
    Calls Tryz.prog 38 #[.slice ao t.length ca, .string ⟨⟨p⟩⟩, .string ⟨⟨d⟩⟩] w fun e w' => ∃ v', e = .returned (.tuple #[v', .int .i64 0]) ∧ Below w.heap.size w w' ∧ w'.ownsRow w.heap.size 38 2 v' (t.take k ++ [(p, d)] ++ t.drop k).length ((t.take k ++ [(p, d)] ++ t.drop k).flatMap cellsF) := by
  have hb0 := (Below.refl w.heap.size w).alloc (Nat.le_refl _) (.cells #[.string ⟨⟨p⟩⟩] 9)
  have d0 := box_cell w p 9
  go_enter Tryz.func38, Tryz.ntmps38
  go_wp2_with (first
    | (go_at_call 18; refine (right_calls (hs.below hb0) hr).mono ?_; rintro e w1 ⟨rfl, hb1⟩; have d1 := keep_cell hb1 d0; have hb01 := hb0.trans (hb1.mono hb0.size))
    | (go_at_call 51; refine (place_calls (hs.below hb01) hp).mono ?_; rintro e w2 ⟨rfl, hb2⟩; have d2 := keep_cell hb2 d1; have hb02 := hb01.trans (hb2.mono hb01.size))
    | (go_at_call 35; refine (pathRight_calls hpr).mono ?_; rintro e w3 ⟨rfl, hb3⟩; have d3 := keep_cell hb3 d2; have hb03 := hb02.trans (hb3.mono hb02.size))
    | (go_at_call 36; refine (clash_calls (hs.below hb03) d3 hc).mono ?_; rintro e w4 ⟨rfl, hb4⟩; have d4 := keep_cell hb4 d3; have hb04 := hb03.trans (hb4.mono hb03.size))
    | (go_at_call 19; refine (clone_calls (hs.below (hb04.alloc hb04.size (.cells #[.string ⟨⟨p⟩⟩, .string ⟨⟨d⟩⟩] 38))) hn).mono ?_; rintro e w5 ⟨vc, rfl, hown, hb5, -⟩
       have hb45 := hb04.alloc hb04.size (.cells #[.string ⟨⟨p⟩⟩, .string ⟨⟨d⟩⟩] 38)
       have hb05 := hb45.trans (hb5.mono hb45.size)
       obtain ⟨q0, q1⟩ := box2_cell w4 (.string ⟨⟨p⟩⟩) (.string ⟨⟨d⟩⟩) 38
       have q0 := keep_cell hb5 q0
       have q1 := keep_cell hb5 q1)
    | (go_at_call 55; refine (insert_calls (base := (w4.alloc (.cells #[.string ⟨⟨p⟩⟩, .string ⟨⟨d⟩⟩] 38)).heap.size) (vb := w5.heap.size) (n := t.length) (xs := t.flatMap cellsF) (.string ⟨⟨p⟩⟩) (.string ⟨⟨d⟩⟩) (hown.alloc _) (heap_alloc_new w5 _) (fun j hj => by have := (hown.lt j hj).2; omega) (Nat.le_trans hb5.size (by simp)) hn hk (oneF t) (oneS p d)).mono ?_; rintro e w6 ⟨vi, rfl, hown6, hb6⟩))
  go_ret2
  refine ⟨_, rfl, (hb05.alloc hb05.size _).trans (hb6.mono hb45.size), ?_⟩
  rw [take_cells, drop_cells, show [Value.string ⟨⟨p⟩⟩, Value.string ⟨⟨d⟩⟩] = [(p, d)].flatMap cellsF from rfl, ← List.flatMap_append, ← List.flatMap_append] at hown6
  have hl6 : t.length + 1 = (t.take k ++ [(p, d)] ++ t.drop k).length := by simp; omega
  rw [hl6] at hown6
  exact own_base hown6 hb45.size
/-- tree.Put, called. -/
theorem put_calls {w : World} {v : Value} {t : List Fi} {p d : List UInt8} {y : List Fi × Int} (hs : SlR reF w v t) (hb : ∀ g ∈ t, g.1.length ≤ 1000000) (hn : t.length ≤ 1000) (hy : Q11.tree_Put t p d = some y) :
    Calls Tryz.prog 38 #[v, .string ⟨⟨p⟩⟩, .string ⟨⟨d⟩⟩] w fun e w' => ∃ v', e = .returned (.tuple #[v', .int .i64 y.2]) ∧ Below w.heap.size w w' ∧ w'.ownsRow w.heap.size 38 2 v' y.1.length (y.1.flatMap cellsF) := by
  obtain ⟨ao, ca, rfl⟩ := SlR.len kF hs
  obtain ⟨r, hr⟩ := Q9.treeRight_ends t hb
  unfold Q11.tree_Put at hy
  rw [hr, Option.bind_some] at hy
  cases r with
  | false =>
    cases hy
    exact (put_one hs hr).mono fun e w' ⟨h1, h2⟩ => ⟨_, h1, h2, own_nil _ _ _ _⟩
  | true =>
    obtain ⟨k, is, hp, hk, hki⟩ := place_of (p := p) hb hr
    rw [if_neg (by simp), hp, Option.bind_some] at hy
    cases hpr : Q9.path_Right p with
    | none => rw [hpr] at hy; cases hy
    | some b =>
      rw [hpr, Option.bind_some] at hy
      cases b with
      | false =>
        cases hy
        exact (put_two hs hr hp hpr).mono fun e w' ⟨h1, h2⟩ => ⟨_, h1, h2, own_nil _ _ _ _⟩
      | true =>
        rw [if_neg (by simp)] at hy
        cases hc : Q11.slices_ContainsFunc_File_tree_Put_1 (t, p) with
        | none => rw [hc] at hy; cases hy
        | some c =>
          rw [hc, Option.bind_some] at hy
          cases c with
          | true =>
            cases hy
            exact (put_three hs hr hp hpr hc).mono fun e w' ⟨h1, h2⟩ => ⟨_, h1, h2, own_nil _ _ _ _⟩
          | false =>
            rw [if_neg (by simp)] at hy
            by_cases hd : 600 < d.length
            · rw [if_pos (.inl hd)] at hy
              cases hy
              exact (put_four hs hr hp hpr hc (by omega)).mono fun e w' ⟨h1, h2⟩ => ⟨_, h1, h2, own_nil _ _ _ _⟩
            · cases is with
              | true =>
                rw [if_neg (by simp [hd]), if_pos rfl] at hy
                cases hy
                exact put_set hs hn hr hp (hki rfl) hpr hc (by omega)
              | false =>
                by_cases hl : 16 ≤ t.length
                · rw [if_pos (.inr ⟨rfl, hl⟩)] at hy
                  cases hy
                  exact (put_five hs hr hp hpr hc (by omega) (by omega)).mono fun e w' ⟨h1, h2⟩ => ⟨_, h1, h2, own_nil _ _ _ _⟩
                · rw [if_neg (by simp [hd, hl]), if_neg (by simp)] at hy
                  cases hy
                  exact put_ins hs hn hr hp hk hpr hc (by omega) (by omega)
end Go.Proofs.V.R11
