/- ReconPlans, walked. -/
import Derived.Test.YtckammfgogiplaaGreatDoorK47
import Derived.Test.YtckammfgogiplaaGreatDoorK48
namespace Go.Proofs.W.Q10
open Go Go.Proofs Go.Proofs.V Go.Proofs.V.U10 Go.Proofs.V.R10 Go.Proofs.W Go.RowKit
set_option linter.unusedVariables false
set_option linter.unusedSimpArgs false
set_option maxRecDepth 100000
theorem encR_at : ∀ (r : RT) (x : Tr r), flatRT r = true → ∀ y ∈ encR r x, ∃ u, y = AV.at u
  | .one c, x, hf, y, hy => by
    simp only [encR, List.mem_singleton] at hy
    subst hy
    cases c <;> simp only [flatRT] at hf <;> first | (cases hf; done) | exact ⟨_, rfl⟩
  | .cons c r, x, hf, y, hy => by
    simp only [encR, List.mem_cons] at hy
    have hr : flatRT r = true := by cases c <;> simp_all [flatRT]
    rcases hy with rfl | hy
    · cases c <;> first | exact ⟨_, rfl⟩ | (simp [flatRT] at hf)
    · exact encR_at r x.2 hr y hy
/-- Rows as a value. -/
def SlR (r : RT) (w : World) (v : Value) (l : List (Tr r)) : Prop := ∃ nl, (nl = true → l = []) ∧ R1 (cellsOf w) noE (.slice (l.map (encR r)) nl .no) v
theorem SlR.below {r : RT} {w w' : World} {v : Value} {l : List (Tr r)} (h : SlR r w v l) (hb : Below w.heap.size w w') : SlR r w' v l := by
  obtain ⟨nl, h1, h2⟩ := h
  exact ⟨nl, h1, h2.mono (fun a u hu => (hb.cell (World.block_lt_of_cell? w a hu)).trans hu) (fun l b h => h)⟩
theorem rows_eq (r : RT) (hf : flatRT r = true) : ∀ (rows : List (List AV)) (l : List (Tr r)), All2 (rowR r) l rows → rows = l.map (encR r)
  | [], [], _ => rfl
  | [], _ :: _, h => h.elim
  | _ :: _, [], h => h.elim
  | row :: rows, x :: l, h => by
    have e := encR_R r x row hf h.1
    rw [e, rows_eq r hf rows l h.2]; rfl
theorem slR_of_R1 {r : RT} (hf : flatRT r = true) {w : World} {E : Nat → Option Nat} {l : List (Tr r)} {rows : List (List AV)} {nl : Bool} {o : V.Own} {v : Value} (h : R1 (cellsOf w) E (.slice rows nl o) v) (hd : All2 (rowR r) l rows) : SlR r w v l := by
  have hr := rows_eq r hf rows l hd
  subst hr
  have hat : ∀ i j x, cellAt (l.map (encR r)) i j = some x → ∃ u, x = AV.at u := by
    intro i j x hx
    unfold cellAt at hx
    rw [List.getElem?_map] at hx
    cases he : l[i]? with
    | none => rw [he] at hx; cases hx
    | some e =>
      rw [he] at hx
      exact encR_at r e hf x (List.mem_of_getElem? hx)
  generalize hg : l.map (encR r) = rows at h hat
  cases h with
  | nil =>
    have : l = [] := List.map_eq_nil_iff.1 hg
    subst this
    exact ⟨true, fun _ => rfl, .nil _⟩
  | slice rows own b off cap sz val hlen hsz hfull hpl hS hR =>
    refine ⟨false, fun e => (by cases e), ?_⟩
    rw [hg]
    refine .slice rows .no b off cap sz val hlen hsz (fun e => by cases e) hpl hS fun i j x hx => ?_
    obtain ⟨u, rfl⟩ := hat i j x hx
    have := hR i j _ hx
    generalize val i j = q at this ⊢
    cases this
    exact .at _
theorem slR_arg {r : RT} (hf : flatRT r = true) {l : List (Tr r)} {nl : Bool} (h : nl = true → l = []) : WR Ono g0 (cellW (.sl r) l) (.slice (l.map (encR r)) nl .no) := .sl _ _ _ _ _ _ ⟨rows_enc r hf l, fun e => by rw [h e]; rfl⟩ rfl
abbrev reF : RT := .cons .str (.one .str)
theorem few4_calls {v : Value} {t : List Q9.Fi} {w : World} (hs : SlR reF w v t) : Calls Tryz.prog 19 #[v] w fun e w' => e = .returned (.bool (decide (t.length ≤ 40) && t.all Q9.okFi)) ∧ Below w.heap.size w w' := by
  obtain ⟨nl, h1, h2⟩ := hs
  refine calls_val (vs := [v]) (s_law04_Few (z := fun _ => none)) (x := t) (Q9.few4_ok t) (xs := [.slice (t.map (encR reF)) nl .no]) ⟨[cellW (.sl reF) t], rfl, slR_arg rfl h1, trivial⟩ (by kernel_rfl) Tryz.func19 rfl (by kernel_rfl) (fun x hx => ?_) rfl (fun j x v hx hv => ?_) (fun rv h => res_bool h)
  · simp at hx; subst hx; exact noId_sl _ _
  · match j with
    | 0 => cases hx; cases hv; exact h2
    | j + 1 => simp at hx
theorem acts_calls {w : World} {v1 v2 : Value} {x1 x2 : List Acn} {r : Bool} (s1 : SlR reA w v1 x1) (s2 : SlR reA w v2 x2) (hr : ref10_Acts (x1, x2) = some r) : Calls Tryz.prog 24 #[v1, v2] w fun e w' => e = .returned (.bool r) ∧ Below w.heap.size w w' := by
  obtain ⟨n1, h1, k1⟩ := s1
  obtain ⟨n2, h2, k2⟩ := s2
  refine calls_val (vs := [v1, v2]) (s_ref10_Acts (z := fun _ => none)) (x := (x1, x2)) hr (xs := [.slice (x1.map (encR reA)) n1 .no, .slice (x2.map (encR reA)) n2 .no]) ⟨[cellW (.sl reA) x1, cellW (.sl reA) x2], rfl, slR_arg rfl h1, slR_arg rfl h2, trivial⟩ (by kernel_rfl) Tryz.func24 rfl (by kernel_rfl) (fun x hx => ?_) rfl (fun j x v hx hv => ?_) (fun rv h => res_bool h)
  · simp at hx; rcases hx with rfl | rfl <;> exact noId_sl _ _
  · match j with
    | 0 => cases hx; cases hv; exact k1
    | 1 => cases hx; cases hv; exact k2
    | j + 2 => simp at hx
/-- .. where the walked functions are called. -/
theorem calls_res1 {n : Nat} {a rs : List SV} {F : Tl (dynL a) → Option (Tl (dynL rs))} (hs : FSound cfg1 ⟨⟨n, a, rs⟩, F⟩) {x : Tl (dynL a)} {y : Tl (dynL rs)} (hF : F x = some y) {xs : List AV} (ha : ArgR a x xs)
    {fn : Func} {c : Code} (he : cfg1.ext n = none) (hf : Tryz.prog.funcs[n]? = some fn) (hb : fn.body = some c) (hname : (fn.name == "runtime.NumGoroutine") = false)
    {W : World} {vs : List Value} (hni : ∀ x ∈ xs, NoId x) (hl : vs.length = xs.length) (hR : ∀ (j : Nat) (x : AV) (v : Value), xs[j]? = some x → vs[j]? = some v → R1 (cellsOf W) noE x v) : Calls Tryz.prog n vs.toArray W fun e w' => ∃ rv v E, e = .returned v ∧ Below W.heap.size W w' ∧ ResR rs y rv ∧ R1 (cellsOf w') E rv v := by
  obtain ⟨rv, h1, h2⟩ := hs x y hF xs ha
  obtain ⟨H', h⟩ := ev_of he h1
  have hp : HPre W (cellsOf W) noE [] := ⟨mem_cellsOf W, fun l b hb => (by cases hb), fun l cs hl => (by simp at hl), fun l l' b hb => (by cases hb)⟩
  have hc := evK_sound mixed ext1 h W (cellsOf W) noE vs hp hni hl hR
  have hcall : (callFunc n vs.toArray).run Tryz.prog W = .ok (.enter n vs.toArray) W := by
    simp [callFunc, Sem.run_bind, hf, hb]
    intro hn
    simp [hn] at hname
  rcases hc with ⟨v, w', h1, _⟩ | ⟨_, h3⟩
  · rw [show cfg1.P = Tryz.prog from rfl, hcall] at h1
    cases h1
  · refine callsIn_wide.1 ((h3 0).mono fun e w' he => ?_)
    obtain ⟨v, rfl, S', E', φ, hpost⟩ := he
    exact ⟨rv, v, E', rfl, bel_below hpost.bel, h2, hpost.rv.mono (fun ad u h => hpost.mem ad u h) (fun l b h => h)⟩
theorem res_acts {w w' : World} {y : List Acn × Int} {e : Ending} (h : ∃ rv v E, e = .returned v ∧ Below w.heap.size w w' ∧ ResR [.c (.sl reA), .c (.int .i64)] y rv ∧ R1 (cellsOf w') E rv v) : ∃ vx, e = .returned (.tuple #[vx, .int .i64 y.2]) ∧ Below w.heap.size w w' ∧ SlR reA w' vx y.1 := by
  obtain ⟨rv, v, E, rfl, hb, ⟨ws, vs, h1, rfl, h2⟩, hR⟩ := h
  have h1' : ws = [cellW (.sl reA) y.1, WV.int .i64 false y.2] := by
    have : some ([cellW (.sl reA) y.1, WV.int .i64 false y.2], ([] : List WV)) = some (ws, []) := h1
    cases this; rfl
  subst h1'
  rcases vs with _ | ⟨a1, _ | ⟨a2, _ | ⟨_, _⟩⟩⟩ <;> first | exact h2.elim | exact h2.2.elim | exact h2.2.2.elim | skip
  have p1 := h2.1.1
  have p2 := h2.2.1.1
  cases p2
  have hR : R1 (cellsOf w') E (.tup [a1, I64 y.2]) v := hR
  cases hR with
  | tup _ us hl h =>
    rcases us with _ | ⟨u1, _ | ⟨u2, _ | ⟨_, _⟩⟩⟩ <;> first | (simp at hl; done) | skip
    have q1 := h 0 _ _ rfl rfl
    have q2 := h 1 _ _ rfl rfl
    cases q2
    cases p1 with
    | sl _ _ _ rows nl own hrow ho => exact ⟨u1, rfl, hb, slR_of_R1 rfl q1 hrow.1⟩
theorem plan_args {w : World} {vt va : Value} {t : List Q9.Fi} {a : List V.R10.En} (st : SlR reF w vt t) (sa : Sl w va a) : ∃ n1 n2, ArgR [.c (.sl reF), .c (.sl reE)] (t, a) [.slice (t.map (encR reF)) n1 .no, .slice (a.map (encR reE)) n2 .no] ∧ R1 (cellsOf w) noE (.slice (t.map (encR reF)) n1 .no) vt ∧ R1 (cellsOf w) noE (.slice (a.map (encR reE)) n2 .no) va := by
  obtain ⟨n1, h1, k1⟩ := st
  obtain ⟨n2, h2, _, k2⟩ := cells_sl sa
  exact ⟨n1, n2, ⟨[cellW (.sl reF) t, cellW (.sl reE) a], rfl, slR_arg rfl h1, sl_args h2, trivial⟩, k1, k2⟩
theorem plan_calls {w : World} {vt va : Value} {t : List Q9.Fi} {a : List V.R10.En} {y : List Acn × Int} (st : SlR reF w vt t) (sa : Sl w va a) (hy : recon_Plan (t, a) = some y) : Calls Tryz.prog 20 #[vt, va] w fun e w' => ∃ vx, e = .returned (.tuple #[vx, .int .i64 y.2]) ∧ Below w.heap.size w w' ∧ SlR reA w' vx y.1 := by
  obtain ⟨n1, n2, ha, k1, k2⟩ := plan_args st sa
  refine (calls_res1 (vs := [vt, va]) (s_recon_Plan zok) (x := (t, a)) hy ha (by kernel_rfl) Tryz.func20 rfl (by kernel_rfl) (fun x hx => ?_) rfl (fun j x v hx hv => ?_)).mono fun e w' h => res_acts h
  · simp at hx; rcases hx with rfl | rfl <;> exact noId_sl _ _
  · match j with
    | 0 => cases hx; cases hv; exact k1
    | 1 => cases hx; cases hv; exact k2
    | j + 2 => simp at hx
theorem refplan_calls {w : World} {vt va : Value} {t : List Q9.Fi} {a : List V.R10.En} {y : List Acn × Int} (st : SlR reF w vt t) (sa : Sl w va a) (hy : ref10_Plan (t, a) = some y) : Calls Tryz.prog 21 #[vt, va] w fun e w' => ∃ vx, e = .returned (.tuple #[vx, .int .i64 y.2]) ∧ Below w.heap.size w w' ∧ SlR reA w' vx y.1 := by
  obtain ⟨n1, n2, ha, k1, k2⟩ := plan_args st sa
  refine (calls_res (vs := [vt, va]) (s_ref10_Plan (z := fun _ => none)) (x := (t, a)) hy ha (by kernel_rfl) Tryz.func21 rfl (by kernel_rfl) (fun x hx => ?_) rfl (fun j x v hx hv => ?_)).mono fun e w' h => res_acts h
  · simp at hx; rcases hx with rfl | rfl <;> exact noId_sl _ _
  · match j with
    | 0 => cases hx; cases hv; exact k1
    | 1 => cases hx; cases hv; exact k2
    | j + 2 => simp at hx
theorem refsettle_calls {w : World} {v1 v2 : Value} {a b : List V.R10.En} {p : List UInt8} {take : Bool} {n : Int} {y : List V.R10.En × Int} (s1 : Sl w v1 a) (s2 : Sl w v2 b) (ma : Mid a) (mb : Mid b) (hp : p.length ≤ 1000000) (hy : recon_Settle (a, (b, (p, (take, n)))) = some y) :
    Calls Tryz.prog 23 #[v1, v2, .string ⟨⟨p⟩⟩, .bool take, .int .i64 n] w fun e w' => ∃ vo, e = .returned (.tuple #[vo, .int .i64 y.2]) ∧ Below w.heap.size w w' ∧ Sl w' vo y.1 := by
  rcases settle_val ma mb hp take n with ⟨m, hm, hne, hv⟩ | ⟨m, hm, hz, hno, hv⟩ | ⟨m, hm, hz, hin, ra, rb, k1, k2, h1, h2, p1, f1, f2, hv⟩
  · rw [hv] at hy; cases hy
    refine (refsettle_err s1 s2 (y := m) (by rw [refmerge_ok ma mb, hm]) hne).mono ?_
    rintro e w' ⟨rfl, hb⟩
    exact ⟨_, rfl, hb, .inl ⟨rfl, rfl⟩⟩
  · rw [hv] at hy; cases hy
    have hl := (merge_lens ma mb hm).2
    refine (refsettle_none s1 s2 (y := m) (by rw [refmerge_ok ma mb, hm]) hz (by
      rw [List.any_eq_false]
      intro x hx
      simp only [beq_iff_eq]
      rintro rfl
      exact hno hx) hl).mono ?_
    rintro e w' ⟨rfl, hb⟩
    exact ⟨_, rfl, hb, .inl ⟨rfl, rfl⟩⟩
  · have hl := (merge_lens ma mb hm).2
    have hna := ma.n
    have hnb := mb.n
    have c1 := (ra.ok _ (List.getElem_mem h1)).cl
    have c2 := (rb.ok _ (List.getElem_mem h2)).cl
    have hpl : ∀ e ∈ a.set k1 (newE p take n a[k1] b[k2]), e.1.length ≤ 1000000 := fun e he => by
      rcases List.mem_or_eq_of_mem_set he with he | rfl
      · exact ma.p e he
      · exact hp
    have H : RHyp w v1 v2 a b p n k1 k2 a[k1] b[k2] m (joinC a[k1].2.2.2 b[k2].2.2.2) (Q9.tickZ (joinC a[k1].2.2.2 b[k2].2.2.2) n) (a.set k1 (p, ((if take then b[k2].2.1 else a[k1].2.1), ((if take then b[k2].2.2.1 else a[k1].2.2.1), Q9.tickZ (joinC a[k1].2.2.2 b[k2].2.2.2) n)))) (mayP (a.set k1 (newE p take n a[k1] b[k2]))) :=
      { s1 := s1, s2 := s2, n1 := hna, n2 := hnb, hy := by rw [refmerge_ok ma mb, hm]
        he := hz
        hp := by
          rw [List.any_eq_true]
          exact ⟨p, hin, by simp⟩
        hc := hl
        h1 := List.getElem?_eq_getElem h1, h2 := List.getElem?_eq_getElem h2, p1 := p1
        f1 := by rw [place_idx (by omega), ← find_idx (Q9.right_back ra) (by omega), f1]
        f2 := by rw [place_idx (by omega), ← find_idx (Q9.right_back rb) (by omega), f2]
        j := refjoin_ok c1 c2
        t := reftick_ok (join_ok' c1 c2) n
        m := refmay_ok hpl (by rw [List.length_set]; omega) }
    refine (refsettle_walk w v1 v2 a b p take n k1 k2 _ _ m _ _ _ H).mono ?_
    rintro e w' ⟨hb, h⟩
    rcases h with ⟨hcc, rfl⟩ | ⟨hcc, hne, rfl⟩ | ⟨hcc, he, vo, rfl, ho⟩
    · rw [hv, if_pos hcc] at hy
      cases hy
      exact ⟨_, rfl, hb, .inl ⟨rfl, rfl⟩⟩
    · rw [hv, if_neg hcc, if_neg hne] at hy
      cases hy
      exact ⟨_, rfl, hb, .inl ⟨rfl, rfl⟩⟩
    · rw [hv, if_neg hcc, if_pos he] at hy
      cases hy
      exact ⟨_, rfl, hb, ho⟩
end Go.Proofs.W.Q10
namespace Go.Proofs.W.Q10
open Go Go.Proofs Go.Proofs.V Go.Proofs.V.U10 Go.Proofs.V.R10 Go.Proofs.W Go.RowKit
set_option linter.unusedVariables false
set_option linter.unusedSimpArgs false
set_option maxRecDepth 100000
theorem SlR.len {r : RT} {w : World} {v : Value} {l : List (Tr r)} (h : SlR r w v l) : ∃ ao cap, v = .slice ao l.length cap := by
  obtain ⟨nl, h1, h⟩ := h
  generalize hg : l.map (encR r) = rows at h
  cases h with
  | nil => rw [h1 rfl]; exact ⟨none, 0, rfl⟩
  | slice rows own b off cap sz val hlen hsz hfull hpl hS hR =>
    have hl : rows.length = l.length := by rw [← hg, List.length_map]
    rw [hl]; exact ⟨_, cap, rfl⟩
theorem slR_open {r : RT} {w : World} {v : Value} {l : List (Tr r)} {nl : Bool} (h : l = [] ∨ nl = false) (k : R1 (cellsOf w) noE (.slice (l.map (encR r)) nl .no) v) : SlR r w v l := by
  refine ⟨nl, fun e => ?_, k⟩
  rcases h with h | h
  · exact h
  · rw [h] at e; cases e
theorem settle_lens {a b : List V.R10.En} (ha : Mid a) (hb : Mid b) {p : List UInt8} (hp : p.length ≤ 1000000) {take : Bool} {n : Int} {y : List V.R10.En × Int} (hy : recon_Settle (a, (b, (p, (take, n)))) = some y) : y.1.length ≤ 64 := by
  have := ha.n
  rcases settle_all ha hb hp take n with ⟨e, he, h⟩ | ⟨ra, rb, hm, hp, k1, k2, h1, h2, p1, p2, f1, f2, hc, hs, h⟩
  · rw [h] at hy; cases hy; simp
  · rw [h] at hy; cases hy
    rw [List.length_set]; omega
set_option maxHeartbeats 4000000 in
theorem plans_calls {w : World} {va vb vt : Value} {a b : List V.R10.En} {t : List Q9.Fi} {p : List UInt8} {take : Bool} {n : Int} (sa : Sl w va a) (sb : Sl w vb b) (st : SlR reF w vt t) : Calls Tryz.prog 4 #[va, vb, vt, .string ⟨⟨p⟩⟩, .bool take, .int .i64 n] w fun e w' => e = .returned (.bool true) ∧ Below w.heap.size w w' := by
  obtain ⟨oa, ca, eva⟩ := Sl.len sa
  obtain ⟨ob, cb, evb⟩ := Sl.len sb
  obtain ⟨ot, ct, evt⟩ := SlR.len st
  subst eva
  subst evb
  subst evt
  have m1 : True := trivial
  by_cases hdone : (decide (a.length ≤ 60) && a.all Q9.okEn) = true ∧ (decide (b.length ≤ 60) && b.all Q9.okEn) = true ∧ (decide (t.length ≤ 40) && t.all Q9.okFi) = true ∧ p.length ≤ 100
  · obtain ⟨hfa, hfb, hft, hp⟩ := hdone
    have FA : ∀ wr, Sl wr (.slice oa a.length ca) a → Calls Tryz.prog 12 #[.slice oa a.length ca] wr fun e w' => e = .returned (.bool true) ∧ Below wr.heap.size wr w' := fun wr hs => by have := few_calls hs; rwa [hfa] at this
    have FB : ∀ wr, Sl wr (.slice ob b.length cb) b → Calls Tryz.prog 12 #[.slice ob b.length cb] wr fun e w' => e = .returned (.bool true) ∧ Below wr.heap.size wr w' := fun wr hs => by have := few_calls hs; rwa [hfb] at this
    have FT : ∀ wr, SlR reF wr (.slice ot t.length ct) t → Calls Tryz.prog 19 #[.slice ot t.length ct] wr fun e w' => e = .returned (.bool true) ∧ Below wr.heap.size wr w' := fun wr hs => by have := few4_calls hs; rwa [hft] at this
    have ma := (few_small hfa).mid
    have mb := (few_small hfb).mid
    have hbt := few_treeB hft
    clear hfa hfb hft
    obtain ⟨x, hx, hxl⟩ : ∃ x, recon_Plan (t, a) = some x ∧ x.1.length ≤ 1000 := by
      rcases plan_all hbt ma with h | ⟨ht, ra, h⟩
      · exact ⟨_, h, by simp⟩
      · refine ⟨_, h, ?_⟩
        have h1 := ht.len
        have h2 := (treeX_fwd (Q9.files_paths ma.p) ra.tree).len
        show (dropsP t (Q9.filesP a) ++ putsP t (Q9.filesP a)).length ≤ 1000
        rw [List.length_append]
        have h3 : (dropsP t (Q9.filesP a)).length ≤ 16 := by unfold dropsP; rw [List.length_map]; have := List.length_filter_le (fun f : Q9.Fi => (getT (Q9.filesP a) f.1).isNone) t; omega
        have h4 : (putsP t (Q9.filesP a)).length ≤ 16 := by unfold putsP; rw [List.length_map]; have := List.length_filter_le (fun g : Q9.Fi => !t.any fun f => (g.1 == f.1) && (g.2 == f.2)) (Q9.filesP a); omega
        omega
    have hrx : ref10_Plan (t, a) = some x := by rw [refplan_ok hbt ma, hx]
    obtain ⟨y, hy⟩ : ∃ y, recon_Settle (a, (b, (p, (take, n)))) = some y := by
      rcases settle_all ma mb (p := p) (by omega) take n with ⟨e, he, h⟩ | ⟨ra, rb, hm, hp, k1, k2, h1, h2, p1, p2, f1, f2, hc, hs, h⟩ <;> exact ⟨_, h⟩
    have hyl := settle_lens ma mb (p := p) (by omega) hy
    have hss := refsame_refl y.1 (by omega)
    have hsa := refsame_refl a (by have := ma.n; omega)
    have hac := acts_refl x.1 (by omega)
    have han := ma.n
    have hpm : p.length ≤ 1000000 := by omega
    have m2 : True := trivial
    go_enter Tryz.func4, Tryz.ntmps4
    go_wp2_with (first
      | (go_at_call 11; refine (small_calls _).mono ?_; rintro e w0 ⟨rfl, hb0⟩)
      | (go_at_call 12; clear m1; refine (FA _ (sa.below hb0)).mono ?_; rintro e w1 ⟨rfl, hb1⟩)
      | (go_at_call 12; refine (FB _ (sb.below (below_trans hb0 hb1))).mono ?_; rintro e w2 ⟨rfl, hb2⟩)
      | (go_at_call 19; refine (FT _ (st.below (below_trans (below_trans hb0 hb1) hb2))).mono ?_; rintro e w3 ⟨rfl, hb3⟩)
      | (at_builtin; refine wpList_appendE (l := a) ?g1 (.tmp 49) (.tmp 50) ?g4 w3.heap.size (.slice (some ⟨w3.heap.size, 0, none⟩) 0 0) 0 [] (.slice oa a.length ca) ?g7 ?g8 ?g9 ?g10 ?g11 ?g12 ?g13 ?g14))
    case g1 => rfl
    case g4 => exact rfl
    case g7 => exact rfl
    case g8 => exact (World.ownsRow_made (base := w3.heap.size) (e := 34) (size := 5) w3 #[] 0 (Nat.le_refl _) (Nat.zero_le _) (by simp))
    case g9 => rfl
    case g10 => exact ((sa.below (below_trans (below_trans (below_trans hb0 hb1) hb2) hb3)).below ((Below.refl _ w3).alloc (Nat.le_refl _) _))
    case g11 => omega
    case g12 => omega
    case g13 => simp
    case g14 =>
      intro vi w4 hown4 hgr4
      have hb03 := below_trans (below_trans (below_trans hb0 hb1) hb2) hb3
      have hb4 : Below w.heap.size w w4 := by
        refine (hb03.alloc hb03.size _).grown hgr4 (by have := hb03.size; simp; omega) (fun k hk => ?_)
        have h1 : some w3.heap.size = some k := hk
        cases h1
        exact hb03.size
      have hsi : Sl w4 vi a := sl_of_owns (by simpa using hown4)
      clear FA FB FT hown4 hgr4
      go_wp2_with (first
        | (go_at_call 20; refine (plan_calls (st.below hb4) (sa.below hb4) hx).mono ?_; rintro e w5 ⟨vx, rfl, hb5, sx⟩)
        | (go_at_call 21; refine (refplan_calls (st.below (below_trans hb4 hb5)) (sa.below (below_trans hb4 hb5)) hrx).mono ?_; rintro e w6 ⟨vy, rfl, hb6, sy⟩)
        | (go_at_call 22; refine (settle_calls (hsi.below (below_trans hb5 hb6)) (sb.below (below_trans (below_trans hb4 hb5) hb6)) hy).mono ?_; rintro e w7 ⟨vl, rfl, hb7, hol, _⟩; have hsl := sl_of_owns hol)
        | (go_at_call 23; refine (refsettle_calls (sa.below (below_trans (below_trans (below_trans hb4 hb5) hb6) hb7)) (sb.below (below_trans (below_trans (below_trans hb4 hb5) hb6) hb7)) ma mb hpm hy).mono ?_; rintro e w8 ⟨vm, rfl, hb8, hsm⟩)
        | (go_at_call 24; refine (acts_calls (sx.below (below_trans (below_trans hb6 hb7) hb8)) (sy.below (below_trans hb7 hb8)) hac).mono ?_; rintro e w9 ⟨rfl, hb9⟩)
        | (go_at_call 15; clear m2; refine (same_calls (hsl.below (below_trans hb8 hb9)) (hsm.below hb9) hss).mono ?_; rintro e w10 ⟨rfl, hb10⟩)
        | (go_at_call 15; refine (same_calls (hsi.below (below_trans (below_trans (below_trans (below_trans (below_trans hb5 hb6) hb7) hb8) hb9) hb10)) (sa.below (below_trans (below_trans (below_trans (below_trans (below_trans (below_trans hb4 hb5) hb6) hb7) hb8) hb9) hb10)) hsa).mono ?_; rintro e w11 ⟨rfl, hb11⟩))
      go_ret
      exact ⟨rfl, below_trans (below_trans (below_trans (below_trans (below_trans (below_trans (below_trans hb4 hb5) hb6) hb7) hb8) hb9) hb10) hb11⟩
  · have FA : ∀ wr, Sl wr (.slice oa a.length ca) a → Calls Tryz.prog 12 #[.slice oa a.length ca] wr fun e w' => e = .returned (.bool (decide (a.length ≤ 60) && a.all Q9.okEn)) ∧ Below wr.heap.size wr w' := fun wr hs => few_calls hs
    have FB : ∀ wr, Sl wr (.slice ob b.length cb) b → Calls Tryz.prog 12 #[.slice ob b.length cb] wr fun e w' => e = .returned (.bool (decide (b.length ≤ 60) && b.all Q9.okEn)) ∧ Below wr.heap.size wr w' := fun wr hs => few_calls hs
    have FT : ∀ wr, SlR reF wr (.slice ot t.length ct) t → Calls Tryz.prog 19 #[.slice ot t.length ct] wr fun e w' => e = .returned (.bool (decide (t.length ≤ 40) && t.all Q9.okFi)) ∧ Below wr.heap.size wr w' := fun wr hs => few4_calls hs
    generalize (decide (a.length ≤ 60) && a.all Q9.okEn) = fa at FA hdone
    generalize (decide (b.length ≤ 60) && b.all Q9.okEn) = fb at FB hdone
    generalize (decide (t.length ≤ 40) && t.all Q9.okFi) = ft at FT hdone
    have hp : fa = true → fb = true → ft = true → 100 < (p.length : Int) := fun h1 h2 h3 => by
      by_cases h : p.length ≤ 100
      · exact absurd ⟨h1, h2, h3, h⟩ hdone
      · omega
    clear hdone
    cases fa <;> cases fb <;> cases ft
    all_goals try simp only [Bool.false_eq_true, false_implies, implies_true, forall_const] at hp
    all_goals go_enter Tryz.func4, Tryz.ntmps4
    all_goals go_wp2_with (first
      | (go_at_call 11; refine (small_calls _).mono ?_; rintro e w0 ⟨rfl, hb0⟩)
      | (go_at_call 12; clear m1; refine (FA _ (sa.below hb0)).mono ?_; rintro e w1 ⟨rfl, hb1⟩)
      | (go_at_call 12; refine (FB _ (sb.below (below_trans hb0 hb1))).mono ?_; rintro e w2 ⟨rfl, hb2⟩)
      | (go_at_call 19; refine (FT _ (st.below (below_trans (below_trans hb0 hb1) hb2))).mono ?_; rintro e w3 ⟨rfl, hb3⟩))
    all_goals go_ret
    all_goals exact ⟨rfl, below_trans (below_trans (below_trans hb0 hb1) hb2) hb3⟩
end Go.Proofs.W.Q10
