/- ActDoes: those whom the law calls. -/
import Derived.Test.YtboeaelijjamoaaGreatDoorK45
import Derived.Test.YtboeaelijjamoaaGreatDoorK47
namespace Go.Proofs.V.R11
open Go Go.Proofs Go.RowKit Go.Lib Go.Proofs.V Go.Proofs.W Go.Proofs.W.C Go.Proofs.V.U11
set_option linter.unusedVariables false
set_option linter.unusedSimpArgs false
set_option maxRecDepth 100000
/-- Do, called. -/
theorem do_calls {w : World} {vt vl : Value} {t : List Fi} {l : List Ac} {room : Int} {y : List Fi × Int} (st : SlR reF w vt t) (sl : SlR reA w vl l) (hy : Q11.act_Do (t, (l, room)) = some y) :
    Calls Tryz.prog 7 #[vt, vl, .int .i64 room] w fun e w' => ∃ v', e = .returned (.tuple #[v', .int .i64 y.2]) ∧ w'.ownsRow w.heap.size 38 2 v' y.1.length (y.1.flatMap cellsF) ∧ Below w.heap.size w w' := by
  unfold Q11.act_Do at hy
  split at hy
  case isFalse => cases hy
  rename_i ho
  obtain ⟨tb, hln, hla⟩ := Q11.okDo_facts ho
  obtain ⟨b, hr, hy⟩ := Option.bind_eq_some_iff.1 hy
  cases b with
  | false =>
    rw [if_pos (by simp)] at hy
    cases hy
    refine (do_one st hr).mono ?_
    rintro e w' ⟨rfl, hb⟩
    exact ⟨_, rfl, World.ownsRow_nil _ _ _ _, hb⟩
  | true =>
    rw [if_neg (by simp)] at hy
    obtain ⟨zz, hz, hy⟩ := Option.bind_eq_some_iff.1 hy
    rcases slR_form kA sl with ⟨rfl, rfl⟩ | ⟨B, O, cap, rfl, hc, hcells⟩
    · rw [Q11.doAll] at hz
      cases hz
      rw [if_pos rfl] at hy
      obtain ⟨n, hzn, hy⟩ := Option.bind_eq_some_iff.1 hy
      refine (do_nil (room := room) st tb hr hzn).mono ?_
      rintro e w' ⟨hb, ⟨hlt, rfl⟩ | ⟨hlt, v', rfl, hown, hv'⟩⟩
      · rw [if_pos hlt] at hy
        cases hy
        exact ⟨_, rfl, World.ownsRow_nil _ _ _ _, hb⟩
      · rw [if_neg hlt] at hy
        cases hy
        exact ⟨_, rfl, hown, hb⟩
    · obtain ⟨n, hzn⟩ : ∃ n, zz.2 = 0 → Q11.tree_Size zz.1 = some n := by
        by_cases h0 : zz.2 = 0
        · rw [if_pos h0] at hy
          obtain ⟨n, hzn, _⟩ := Option.bind_eq_some_iff.1 hy
          exact ⟨n, fun _ => hzn⟩
        · exact ⟨0, fun h => absurd h h0⟩
      refine (do_two (room := room) st hcells tb hln hc hla hr hz hzn).mono ?_
      rintro e w' ⟨hb, ⟨h0, rfl⟩ | ⟨h0, hlt, rfl⟩ | ⟨h0, hlt, v', rfl, hown, hv'⟩⟩
      · rw [if_neg h0] at hy
        cases hy
        exact ⟨_, rfl, World.ownsRow_nil _ _ _ _, hb⟩
      · rw [if_pos h0, hzn h0, Option.bind_some, if_pos hlt] at hy
        cases hy
        exact ⟨_, rfl, World.ownsRow_nil _ _ _ _, hb⟩
      · rw [if_pos h0, hzn h0, Option.bind_some, if_neg hlt] at hy
        cases hy
        exact ⟨_, rfl, hown, hb⟩
noncomputable abbrev cT : Cfg := cfgZ Q11.zT
theorem small_calls (w : World) : Calls Tryz.prog 4 #[] w fun e w' => e = .returned (.bool true) ∧ Below w.heap.size w w' :=
  (calls1 (cfg := cT) (n := 4) (vs := []) (d := .bool) (y := true) (F := Q11.law11_small) Q11.okT rfl (Q11.s_law11_small Q11.zT_ok) Q11.small_ok args0 (fn := Tryz.f4) Tryz.func4 rfl (by kernel_rfl)).mono fun e w' ⟨u, h1, h2, h3⟩ => ⟨by rw [h1, bool_of h3], h2⟩
theorem few4_calls {w : World} {v : Value} {t : List Fi} {r : Bool} (hs : SlR reF w v t) (hr : Q9.law04_Few t = some r) : Calls Tryz.prog 5 #[v] w fun e w' => e = .returned (.bool r) ∧ Below w.heap.size w w' :=
  (calls1 (cfg := c0) (n := 5) (vs := [v]) (d := .bool) (F := Q9.law04_Few) ok0 rfl (Q11.s_law04_Few (z := fun _ => none)) hr (args1 (c := .sl reF) rfl hs) (fn := Tryz.f5) Tryz.func5 rfl (by kernel_rfl)).mono fun e w' ⟨u, h1, h2, h3⟩ => ⟨by rw [h1, bool_of h3], h2⟩
theorem few11_calls {w : World} {v : Value} {l : List Ac} {r : Bool} (hs : SlR reA w v l) (hr : Q11.law11_few l = some r) : Calls Tryz.prog 6 #[v] w fun e w' => e = .returned (.bool r) ∧ Below w.heap.size w w' :=
  (calls1 (cfg := c0) (n := 6) (vs := [v]) (d := .bool) (F := Q11.law11_few) ok0 rfl (Q11.s_law11_few (z := fun _ => none)) hr (args1 (c := .sl reA) rfl hs) (fn := Tryz.f6) Tryz.func6 rfl (by kernel_rfl)).mono fun e w' ⟨u, h1, h2, h3⟩ => ⟨by rw [h1, bool_of h3], h2⟩
theorem refDo_calls {w : World} {vt vl : Value} {t : List Fi} {l : List Ac} {room : Int} {y : List Fi × Int} (st : SlR reF w vt t) (sl : SlR reA w vl l) (hy : Q11.ref11_Do (t, (l, room)) = some y) :
    Calls Tryz.prog 8 #[vt, vl, .int .i64 room] w fun e w' => ∃ v', e = .returned (.tuple #[v', .int .i64 y.2]) ∧ SlR reF w' v' y.1 ∧ Below w.heap.size w w' :=
  (calls2 (cfg := cT) (n := 8) (vs := [vt, vl, .int .i64 room]) (d1 := .sl reF) (d2 := .int .i64) (F := Q11.ref11_Do) Q11.okT rfl rfl (Q11.s_ref11_Do Q11.zT_put) hy (args3 (c1 := .sl reF) (c2 := .sl reA) (c3 := .int .i64) rfl rfl rfl st sl rfl) (fn := Tryz.f8) Tryz.func8 rfl (by kernel_rfl)).mono fun e w' ⟨u1, u2, h1, h2, h3, h4⟩ => ⟨u1, by rw [h1, show u2 = .int .i64 y.2 from h4], h3, h2⟩
theorem same_calls {w : World} {va vb : Value} {a b : List Fi} {r : Bool} (sa : SlR reF w va a) (sb : SlR reF w vb b) (hr : Q10.ref04_Same (a, b) = some r) : Calls Tryz.prog 9 #[va, vb] w fun e w' => e = .returned (.bool r) ∧ Below w.heap.size w w' :=
  (calls1 (cfg := c0) (n := 9) (vs := [va, vb]) (d := .bool) (F := Q10.ref04_Same) ok0 rfl (Q11.s_ref04_Same (z := fun _ => none)) hr (args2 (c1 := .sl reF) (c2 := .sl reF) rfl rfl sa sb) (fn := Tryz.f9) Tryz.func9 rfl (by kernel_rfl)).mono fun e w' ⟨u, h1, h2, h3⟩ => ⟨by rw [h1, bool_of h3], h2⟩
theorem acts_calls {w : World} {va vb : Value} {a b : List Ac} {r : Bool} (sa : SlR reA w va a) (sb : SlR reA w vb b) (hr : Q10.ref10_Acts (a, b) = some r) : Calls Tryz.prog 10 #[va, vb] w fun e w' => e = .returned (.bool r) ∧ Below w.heap.size w w' :=
  (calls1 (cfg := c0) (n := 10) (vs := [va, vb]) (d := .bool) (F := Q10.ref10_Acts) ok0 rfl (Q11.s_ref10_Acts (z := fun _ => none)) hr (args2 (c1 := .sl reA) (c2 := .sl reA) rfl rfl sa sb) (fn := Tryz.f10) Tryz.func10 rfl (by kernel_rfl)).mono fun e w' ⟨u, h1, h2, h3⟩ => ⟨by rw [h1, bool_of h3], h2⟩
theorem undo_calls {w : World} {vt vl : Value} {t : List Fi} {l u : List Ac} (st : SlR reF w vt t) (sl : SlR reA w vl l) (hy : Q11.act_Undo (t, l) = some u) : Calls Tryz.prog 11 #[vt, vl] w fun e w' => ∃ v', e = .returned v' ∧ SlR reA w' v' u ∧ Below w.heap.size w w' :=
  (calls1 (cfg := cT) (n := 11) (vs := [vt, vl]) (d := .sl reA) (F := Q11.act_Undo) Q11.okT rfl (Q11.s_act_Undo Q11.zT_ok) hy (args2 (c1 := .sl reF) (c2 := .sl reA) rfl rfl st sl) (fn := Tryz.f11) Tryz.func11 rfl (by kernel_rfl)).mono fun e w' ⟨u, h1, h2, h3⟩ => ⟨u, h1, h3, h2⟩
theorem refundo_calls {w : World} {vt vl : Value} {t : List Fi} {l u : List Ac} (st : SlR reF w vt t) (sl : SlR reA w vl l) (hy : Q11.ref11_Undo (t, l) = some u) : Calls Tryz.prog 12 #[vt, vl] w fun e w' => ∃ v', e = .returned v' ∧ SlR reA w' v' u ∧ Below w.heap.size w w' :=
  (calls1 (cfg := c0) (n := 12) (vs := [vt, vl]) (d := .sl reA) (F := Q11.ref11_Undo) ok0 rfl (Q11.s_ref11_Undo (z := fun _ => none)) hy (args2 (c1 := .sl reF) (c2 := .sl reA) rfl rfl st sl) (fn := Tryz.f12) Tryz.func12 rfl (by kernel_rfl)).mono fun e w' ⟨u, h1, h2, h3⟩ => ⟨u, h1, h3, h2⟩
theorem nets_calls {w : World} {vl : Value} {l u : List Ac} (sl : SlR reA w vl l) (hy : Q11.act_Net l = some u) : Calls Tryz.prog 13 #[vl] w fun e w' => ∃ v', e = .returned v' ∧ SlR reA w' v' u ∧ Below w.heap.size w w' :=
  (calls1 (cfg := cT) (n := 13) (vs := [vl]) (d := .sl reA) (F := Q11.act_Net) Q11.okT rfl (Q11.s_act_Net Q11.zT_ok.n) hy (args1 (c := .sl reA) rfl sl) (fn := Tryz.f13) Tryz.func13 rfl (by kernel_rfl)).mono fun e w' ⟨u, h1, h2, h3⟩ => ⟨u, h1, h3, h2⟩
theorem refnet_calls {w : World} {vl : Value} {l u : List Ac} (sl : SlR reA w vl l) (hy : Q11.ref11_Net l = some u) : Calls Tryz.prog 14 #[vl] w fun e w' => ∃ v', e = .returned v' ∧ SlR reA w' v' u ∧ Below w.heap.size w w' :=
  (calls1 (cfg := c0) (n := 14) (vs := [vl]) (d := .sl reA) (F := Q11.ref11_Net) ok0 rfl (Q11.s_ref11_Net (z := fun _ => none)) hy (args1 (c := .sl reA) rfl sl) (fn := Tryz.f14) Tryz.func14 rfl (by kernel_rfl)).mono fun e w' ⟨u, h1, h2, h3⟩ => ⟨u, h1, h3, h2⟩
theorem pathss_calls {w : World} {vl : Value} {l : List Ac} {u : List (List UInt8)} (sl : SlR reA w vl l) (hy : Q11.act_Paths l = some u) : Calls Tryz.prog 16 #[vl] w fun e w' => ∃ v', e = .returned v' ∧ SlR Q11.reP w' v' u ∧ Below w.heap.size w w' :=
  (calls1 (cfg := cT) (n := 16) (vs := [vl]) (d := .sl Q11.reP) (F := Q11.act_Paths) Q11.okT rfl (Q11.s_act_Paths Q11.zT_ok.p) hy (args1 (c := .sl reA) rfl sl) (fn := Tryz.f16) Tryz.func16 rfl (by kernel_rfl)).mono fun e w' ⟨u, h1, h2, h3⟩ => ⟨u, h1, h3, h2⟩
theorem refpaths_calls {w : World} {vl : Value} {l : List Ac} {u : List (List UInt8)} (sl : SlR reA w vl l) (hy : Q11.ref11_Paths l = some u) : Calls Tryz.prog 17 #[vl] w fun e w' => ∃ v', e = .returned v' ∧ SlR Q11.reP w' v' u ∧ Below w.heap.size w w' :=
  (calls1 (cfg := c0) (n := 17) (vs := [vl]) (d := .sl Q11.reP) (F := Q11.ref11_Paths) ok0 rfl (Q11.s_ref11_Paths (z := fun _ => none)) hy (args1 (c := .sl reA) rfl sl) (fn := Tryz.f17) Tryz.func17 rfl (by kernel_rfl)).mono fun e w' ⟨u, h1, h2, h3⟩ => ⟨u, h1, h3, h2⟩
theorem rows_calls {w : World} {va vb : Value} {a b : List (List UInt8)} {r : Bool} (sa : SlR Q11.reP w va a) (sb : SlR Q11.reP w vb b) (hr : Q9.ref01_Rows (a, b) = some r) : Calls Tryz.prog 15 #[va, vb] w fun e w' => e = .returned (.bool r) ∧ Below w.heap.size w w' :=
  (calls1 (cfg := c0) (n := 15) (vs := [va, vb]) (d := .bool) (F := Q9.ref01_Rows) ok0 rfl (Q11.s_ref01_Rows (z := fun _ => none)) hr (args2 (c1 := .sl Q11.reP) (c2 := .sl Q11.reP) rfl rfl sa sb) (fn := Tryz.f15) Tryz.func15 rfl (by kernel_rfl)).mono fun e w' ⟨u, h1, h2, h3⟩ => ⟨by rw [h1, bool_of h3], h2⟩
theorem wpList_appendF {w : World} {ops : Array Oper} {rest : List Oper} {o : Oper} {a : Act} {Q : Exit → Act → World → Prop} (hgd : o.guard = none) (s x : Operand)
    (ho : o.op = .call { callee := .builtin .append, args := #[s, x], argTypes := #[22, 22] }) (base : Nat) (v : Value) (n : Nat) (xs : List Value) (l : List Fi) (vl : Value) (hs : a.eval s = v) (hown : w.ownsRow base 38 2 v n xs)
    (hx : a.eval x = vl) (hsl : SlR reF w vl l) (hn : n ≤ 2000) (hl : l.length ≤ 1000) (hbase : base ≤ w.heap.size)
    (h : ∀ v' w', w'.ownsRow base 38 2 v' (n + l.length) (xs ++ l.flatMap cellsF) → w.grownBy w' v.ownBlock → wpList Tryz.prog ops Q rest (a.put o.dst v') w') : wpList Tryz.prog ops Q (o :: rest) a w := by
  obtain ⟨i0, hi, hz0, hz1, hz2⟩ := info_parts info54
  rcases slR_form kF hsl with ⟨rfl, rfl⟩ | ⟨b, off, cap, rfl, hc, hcells⟩
  · refine wpList_append_own_none hgd s x 22 ho base 38 i0 2 Tryz.underlying22 hi v n xs hs hown hx (h v w (by simpa using hown) ⟨rfl, rfl, rfl, Nat.le_refl _, fun _ _ _ => rfl⟩)
  · exact wpList_append_own w hgd s x 22 ho base 38 i0 _ 2 32 Tryz.underlying22 hi hz0 hz1 hz2 rfl (by decide) v n xs hs hown ⟨b, off, none⟩ l.length cap (l.flatMap cellsF) hx (kF.flen l) (fun j u hu => by rw [Addr.add_lit]; exact hcells j u hu) (oneF l) (by unfold maxLen; omega) (by omega) hbase fun v' w' h1 h2 _ => h v' w' h1 h2
end Go.Proofs.V.R11
namespace Go.Proofs.W.Q11
open Go Go.Proofs.V Go.Proofs.W.Q9 Go.Proofs.W.Q10
theorem refsameF (a : List Fi) (hl : a.length < 1000000000) : ref04_Same (a, a) = some true := by
  unfold ref04_Same
  dsimp only
  rw [if_neg (by simp)]
  refine loop_true a.length (by omega) (fun again => by rw [if_neg (by simp)]) fun i hi again ha => ?_
  rw [if_pos (by simp; omega), ixL_nat hi, ixL_nat hi, wrap_succ (by omega), if_neg (by simp), ha]
theorem netP_len (l : List AcP) : (netP l).length ≤ 2 * l.length := by
  have hs := sortP_len (l.map (·.1))
  rw [List.length_map] at hs
  unfold netP
  rw [List.length_append]
  have k1 := List.length_filter_le (fun a : AcP => !a.2.1) ((sortP (l.map (·.1))).map (lastA l))
  have k2 := List.length_filter_le (fun a : AcP => a.2.1) ((sortP (l.map (·.1))).map (lastA l))
  rw [List.length_map] at k1 k2
  omega
theorem undo_tot {t : List Fi} {l : List AcP} (hb : PB t) (ho : okActs l = true) : ∃ u, act_Undo (t, l) = some u ∧ u.length ≤ 2000 := by
  have hl : l.length ≤ 1000 ∧ ∀ a ∈ l, a.1.length ≤ 100000 := by
    simp only [okActs, Bool.and_eq_true, decide_eq_true_eq, List.all_eq_true] at ho
    exact ⟨ho.1, fun a ha => (ho.2 a ha).1⟩
  obtain ⟨r, hr⟩ := treeRight_ends t hb.big
  cases r with
  | false =>
    refine ⟨[], ?_, by simp⟩
    unfold act_Undo
    dsimp only
    rw [hr]; rfl
  | true =>
    have hR := treeX_fwd hb.big hr
    rw [undo_ok hb.big hR ho]
    have hs := sortP_len (l.map (·.1))
    rw [List.length_map] at hs
    have hpm : ∀ q ∈ sortP (l.map (·.1)), q.length ≤ 100000 := fun q hq => by
      obtain ⟨a, ha, rfl⟩ := List.mem_map.1 ((sortP_mem _ q).1 hq)
      exact hl.2 a ha
    generalize sortP (l.map (·.1)) = ps at *
    have hua : okActs (ps.map (undoA t)) = true := by
      simp only [okActs, Bool.and_eq_true, decide_eq_true_eq, List.all_eq_true, List.length_map]
      refine ⟨by omega, fun a ha => ?_⟩
      obtain ⟨q, hq, rfl⟩ := List.mem_map.1 ha
      refine ⟨hpm q hq, ?_⟩
      show ((getT t q).getD []).length ≤ _
      cases hg' : getT t q with
      | none => simp
      | some d =>
        have h9 : d.length ≤ 600 := hR.data _ ((getT_iff (treeX_asc hR)).1 hg')
        rw [Option.getD_some]
        omega
    unfold act_Net
    rw [if_pos hua]
    have := netP_len (ps.map (undoA t))
    rw [List.length_map] at this
    exact ⟨_, rfl, by omega⟩
theorem do_tot {t : List Fi} {l : List AcP} (ho : okDo t l = true) (room : Int) : ∃ y, act_Do (t, (l, room)) = some y ∧ y.1.length ≤ 1000 := by
  rcases do_all ho room with ⟨_, h⟩ | ⟨hX, z, hz, ⟨h1, h2, h3⟩ | ⟨h1, h2, h3, h4, h5, h6⟩⟩
  · exact ⟨_, h, by simp⟩
  · exact ⟨_, h3, by simp⟩
  · have := h2.len
    refine ⟨_, h6, ?_⟩
    split
    · simp
    · simp; omega
end Go.Proofs.W.Q11
namespace Go.Proofs.V.R11
open Go Go.Proofs Go.RowKit Go.Lib Go.Proofs.V Go.Proofs.W Go.Proofs.W.C Go.Proofs.V.U11
set_option linter.unusedVariables false
set_option linter.unusedSimpArgs false
set_option maxRecDepth 100000
set_option maxHeartbeats 4000000 in
theorem does_calls {w : World} {vt vl : Value} {t : List Fi} {l : List Ac} {room : Int} (st : SlR reF w vt t) (sl : SlR reA w vl l) (hlm : l.length ≤ 9223372036854775807) :
    Calls Tryz.prog 3 #[vt, vl, .int .i64 room] w fun e w' => e = .returned (.bool true) ∧ Below w.heap.size w w' := by
  obtain ⟨ot, ct, rfl⟩ := SlR.len kF st
  obtain ⟨ol, cl, rfl⟩ := SlR.len kA sl
  have F4 := fun (wr : World) (hs : SlR reF wr (.slice ot t.length ct) t) => few4_calls hs (Q9.few4_ok t)
  have F6 := fun (wr : World) (hs : SlR reA wr (.slice ol l.length cl) l) => few11_calls hs (Q11.few11_ok l hlm)
  by_cases hdone : (decide (t.length ≤ 40) && t.all Q9.okFi) = true ∧ (decide (l.length ≤ 60) && l.all Q11.okAc) = true
  · obtain ⟨hf, hg⟩ := hdone
    have hok := Q11.okDo_few hf hg
    have hoa := Q11.okActs_few hg
    have hPB := Q11.few_PB hf
    have htl : t.length ≤ 40 := by simp only [Bool.and_eq_true, decide_eq_true_eq] at hf; exact hf.1
    have hll : l.length ≤ 60 := by simp only [Bool.and_eq_true, decide_eq_true_eq] at hg; exact hg.1
    rw [hf] at F4
    rw [hg] at F6
    obtain ⟨y, hy, hyl⟩ := Q11.do_tot hok room
    have hyr : Q11.ref11_Do (t, (l, room)) = some y := by rw [Q11.refdo_ok hok, hy]
    obtain ⟨u, hu, hul⟩ := Q11.undo_tot hPB hoa
    have hur : Q11.ref11_Undo (t, l) = some u := by rw [Q11.refundo_ok hPB hoa, hu]
    have hn : Q11.act_Net l = some (Q11.netP l) := by unfold Q11.act_Net; rw [if_pos hoa]
    have hnr : Q11.ref11_Net l = some (Q11.netP l) := by rw [Q11.refnet_ok hoa, hn]
    have hp : Q11.act_Paths l = some (Q10.sortP (l.map (·.1))) := by unfold Q11.act_Paths; rw [if_pos hoa]
    have hpr : Q11.ref11_Paths l = some (Q10.sortP (l.map (·.1))) := Q11.refpaths_ok (by omega)
    have hnl := Q11.netP_len l
    have hpl : (Q10.sortP (l.map (·.1))).length ≤ 1000 := by have := Q10.sortP_len (l.map (·.1)); simp at this; omega
    generalize Q11.netP l = nn at *
    generalize Q10.sortP (l.map (·.1)) = pp at *
    have ssy := Q11.refsameF y.1 (by omega)
    have sst := Q11.refsameF t (by omega)
    have ssu := Q10.acts_refl u (by omega)
    have ssn := Q10.acts_refl nn (by omega)
    have ssp := Q9.rows_refl pp (by omega)
    clear hf hg hok hoa hPB
    have m1 : True := trivial
    have m2 : True := trivial
    go_enter Tryz.func3, Tryz.ntmps3
    go_wp2_with (first
      | (go_at_call 4; refine (small_calls _).mono ?_; rintro e w0 ⟨rfl, hb0⟩)
      | (go_at_call 5; refine (F4 _ (st.below hb0)).mono ?_; rintro e w1 ⟨rfl, hb1⟩)
      | (go_at_call 6; refine (F6 _ (sl.below (hb0.trans (hb1.mono hb0.size)))).mono ?_; rintro e w2 ⟨rfl, hb2⟩; have hb02 := (hb0.trans (hb1.mono hb0.size)).trans (hb2.mono (hb0.trans (hb1.mono hb0.size)).size))
      | (at_builtin; refine wpList_appendF (w := ?ww) (l := t) ?g1 (.tmp 29) (.tmp 30) ?g4 w2.heap.size (.slice (some ⟨w2.heap.size, 0, none⟩) 0 0) 0 [] (.slice ot t.length ct) ?g7 ?g8 ?g9 ?g10 ?g11 ?g12 ?g13 ?g14))
    case g4 => exact rfl
    case g7 => exact rfl
    case g8 => exact (World.ownsRow_made (base := w2.heap.size) (e := 38) (size := 2) w2 #[] 0 (Nat.le_refl _) (Nat.zero_le _) (by simp))
    case g9 => rfl
    case g10 => exact ((st.below hb02).below ((Below.refl _ w2).alloc (Nat.le_refl _) _))
    case g11 => omega
    case g12 => omega
    case g13 => simp
    case g1 => rfl
    case g14 =>
      intro vi w3 hown3 hgr3
      have hb3 : Below w.heap.size w w3 := by
        refine (hb02.alloc hb02.size _).grown hgr3 (by have := hb02.size; simp; omega) (fun k hk => ?_)
        have h1 : some w2.heap.size = some k := hk
        cases h1
        exact hb02.size
      have hsi : SlR reF w3 vi t := slR_own kF (by simpa using hown3)
      clear F4 F6 hown3 hgr3 hb0 hb1 hb2 hb02
      go_wp2_with (first
        | (go_at_call 7; refine (do_calls hsi (sl.below hb3) hy).mono ?_; rintro e w4 ⟨vx, rfl, hx4, hb4⟩; have hb34 := hb3.trans (hb4.mono hb3.size); obtain ⟨ao, cv, rfl, hao⟩ := own_form hx4)
        | (go_at_call 8; refine (refDo_calls (st.below hb34) (sl.below hb34) hyr).mono ?_; rintro e w5 ⟨vy, rfl, hy5, hb5⟩; have hx5 := hx4.kept (grown_of hb5) (apart_none _); have hb35 := hb34.trans (hb5.mono hb34.size); have st5 := st.below hb35; have sl5 := sl.below hb35; have hcur := Below.refl w5.heap.size w5)
        | (go_at_call 9; clear m1; refine (same_calls (slR_own kF hx5) hy5 ssy).mono ?_; rintro e w6 ⟨rfl, hb6⟩; have hcur := hcur.trans (hb6.mono hcur.size))
        | (go_at_call 11; refine (undo_calls (st5.below hcur) (sl5.below hcur) hu).mono ?_; rintro e w7 ⟨vu, rfl, su, hb7⟩; have hcur := hcur.trans (hb7.mono hcur.size))
        | (go_at_call 12; refine (refundo_calls (st5.below hcur) (sl5.below hcur) hur).mono ?_; rintro e w8 ⟨vur, rfl, sur, hb8⟩; have hcur := hcur.trans (hb8.mono hcur.size))
        | (go_at_call 10; clear m2; refine (acts_calls (su.below hb8) sur ssu).mono ?_; rintro e w9 ⟨rfl, hb9⟩; have hcur := hcur.trans (hb9.mono hcur.size))
        | (go_at_call 13; refine (nets_calls (sl5.below hcur) hn).mono ?_; rintro e w10 ⟨vn, rfl, sn, hb10⟩; have hcur := hcur.trans (hb10.mono hcur.size))
        | (go_at_call 14; refine (refnet_calls (sl5.below hcur) hnr).mono ?_; rintro e w11 ⟨vnr, rfl, snr, hb11⟩; have hcur := hcur.trans (hb11.mono hcur.size))
        | (go_at_call 10; refine (acts_calls (sn.below hb11) snr ssn).mono ?_; rintro e w12 ⟨rfl, hb12⟩; have hcur := hcur.trans (hb12.mono hcur.size))
        | (go_at_call 16; refine (pathss_calls (sl5.below hcur) hp).mono ?_; rintro e w13 ⟨vp, rfl, sp, hb13⟩; have hcur := hcur.trans (hb13.mono hcur.size))
        | (go_at_call 17; refine (refpaths_calls (sl5.below hcur) hpr).mono ?_; rintro e w14 ⟨vpr, rfl, spr, hb14⟩; have hcur := hcur.trans (hb14.mono hcur.size))
        | (go_at_call 15; refine (rows_calls (sp.below hb14) spr ssp).mono ?_; rintro e w15 ⟨rfl, hb15⟩; have hcur := hcur.trans (hb15.mono hcur.size)))
      have hx := hx5.kept (grown_of hcur) (apart_none _)
      have hb3x : Below w3.heap.size w3 _ := (hb4.trans (hb5.mono hb4.size)).trans (hcur.mono (hb4.trans (hb5.mono hb4.size)).size)
      clear hx4 hx5 hy5 su sur sn snr sp spr hb6 hb7 hb8 hb9 hb10 hb11 hb12 hb13 hb14 hb15 hcur st5 sl5 hb35 hb34 hb4 hb5
      go_loopw [16] (fun c wr => ∃ (k : Nat) (xs : List Value), k ≤ y.1.length ∧ c = .int .i64 k ∧ wr.ownsRow w3.heap.size 38 2 (.slice ao y.1.length cv) y.1.length xs ∧ Below w3.heap.size w3 wr)
        (fun c _ => y.1.length - (RowKit.intOf c).toNat)
      case atStart => exact ⟨0, _, Nat.zero_le _, rfl, hx, hb3x⟩
      case round =>
        obtain ⟨k, xs, hk, rfl, hown, hnx⟩ := hrel
        by_cases hlt : k < y.1.length
        · obtain ⟨g', rfl⟩ := hao (by omega)
          have hxl := hown.1
          have hgb : w3.heap.size ≤ g' := (hown.lt g' rfl).1
          have d0 : wr.cell? ⟨g', k * 2, none⟩ = some xs[k * 2] := (hown.cellAt (k * 2) (by omega)).trans (List.getElem?_eq_getElem (by omega))
          have z0 : wr.frozen? ⟨g', k * 2, none⟩ = false := hown.frozenAt _
          go_wp2
          exact ⟨⟨k + 1, _, by omega, by go_num, (hown.stored _ _).1, hnx.setCell hgb _⟩, by simp [RowKit.intOf]; omega⟩
        · have hbw := hb3.trans (hnx.mono hb3.size)
          go_wp2_with (first
            | (go_at_call 9; refine (same_calls (hsi.below hnx) (st.below hbw) sst).mono ?_; rintro e w16 ⟨rfl, hb16⟩))
          go_ret
          exact ⟨rfl, hbw.trans (hb16.mono hbw.size)⟩
  · generalize (decide (t.length ≤ 40) && t.all Q9.okFi) = fa at F4 hdone
    generalize (decide (l.length ≤ 60) && l.all Q11.okAc) = fb at F6 hdone
    cases fa with
    | false =>
      cases fb with
      | false =>
        go_enter Tryz.func3, Tryz.ntmps3
        go_wp2_with (first
          | (go_at_call 4; refine (small_calls _).mono ?_; rintro e w0 ⟨rfl, hb0⟩)
          | (go_at_call 5; refine (F4 _ (st.below hb0)).mono ?_; rintro e w1 ⟨rfl, hb1⟩)
          | (go_at_call 6; refine (F6 _ (sl.below (hb0.trans (hb1.mono hb0.size)))).mono ?_; rintro e w2 ⟨rfl, hb2⟩; have hb02 := (hb0.trans (hb1.mono hb0.size)).trans (hb2.mono (hb0.trans (hb1.mono hb0.size)).size)))
        go_ret
        exact ⟨rfl, hb02⟩
      | true =>
        go_enter Tryz.func3, Tryz.ntmps3
        go_wp2_with (first
          | (go_at_call 4; refine (small_calls _).mono ?_; rintro e w0 ⟨rfl, hb0⟩)
          | (go_at_call 5; refine (F4 _ (st.below hb0)).mono ?_; rintro e w1 ⟨rfl, hb1⟩)
          | (go_at_call 6; refine (F6 _ (sl.below (hb0.trans (hb1.mono hb0.size)))).mono ?_; rintro e w2 ⟨rfl, hb2⟩; have hb02 := (hb0.trans (hb1.mono hb0.size)).trans (hb2.mono (hb0.trans (hb1.mono hb0.size)).size)))
        go_ret
        exact ⟨rfl, hb02⟩
    | true =>
      cases fb with
      | true => exact absurd ⟨rfl, rfl⟩ hdone
      | false =>
        go_enter Tryz.func3, Tryz.ntmps3
        go_wp2_with (first
          | (go_at_call 4; refine (small_calls _).mono ?_; rintro e w0 ⟨rfl, hb0⟩)
          | (go_at_call 5; refine (F4 _ (st.below hb0)).mono ?_; rintro e w1 ⟨rfl, hb1⟩)
          | (go_at_call 6; refine (F6 _ (sl.below (hb0.trans (hb1.mono hb0.size)))).mono ?_; rintro e w2 ⟨rfl, hb2⟩; have hb02 := (hb0.trans (hb1.mono hb0.size)).trans (hb2.mono (hb0.trans (hb1.mono hb0.size)).size)))
        go_ret
        exact ⟨rfl, hb02⟩
end Go.Proofs.V.R11
