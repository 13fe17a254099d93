/- ReconMerges, walked: what it is told by those whom it calls. -/
import Derived.Test.YtckammfgogiplaaGreatDoorK35
import Derived.Test.YtckammfgogiplaaGreatDoorK37
import Derived.Test.YtckammfgogiplaaGreatDoorK43
namespace Go.Proofs.W.Q10
open Go Go.Proofs Go.Proofs.V Go.Proofs.V.U10 Go.Proofs.V.R10 Go.Proofs.W Go.RowKit
set_option linter.unusedVariables false
set_option linter.unusedSimpArgs false
set_option maxRecDepth 100000
theorem small_calls (w : World) : Calls Tryz.prog 11 #[] w fun e w' => e = .returned (.bool true) ∧ Below w.heap.size w w' :=
  calls_law (s_law10_small zok) (x := ()) small_ok (xs := []) ⟨[], rfl, trivial⟩ (by kernel_rfl) Tryz.func11 rfl (by kernel_rfl) (W := w) (vs := []) (fun x hx => by cases hx) rfl (fun j x v hx hv => by cases hx)
theorem few_calls {v : Value} {l : List V.R10.En} {w : World} (hs : Sl w v l) : Calls Tryz.prog 12 #[v] w fun e w' => e = .returned (.bool (decide (l.length ≤ 60) && l.all Q9.okEn)) ∧ Below w.heap.size w w' := by
  obtain ⟨nl, h1, _, h2⟩ := cells_sl hs
  refine calls_val (vs := [v]) (s_law09_Few (z := fun _ => none)) (x := l) (Q9.few9_ok l) (xs := [.slice (l.map (encR reE)) nl .no]) ⟨[cellW (.sl reE) l], rfl, sl_args h1, trivial⟩ (by kernel_rfl) Tryz.func12 rfl (by kernel_rfl) (fun x hx => ?_) rfl (fun j x v hx hv => ?_) (fun rv h => res_bool h)
  · simp at hx; subst hx; exact noId_sl _ _
  · match j with
    | 0 => cases hx; cases hv; exact h2
    | j + 1 => simp at hx
theorem two_sl {w : World} {v1 v2 : Value} {l1 l2 : List V.R10.En} (s1 : Sl w v1 l1) (s2 : Sl w v2 l2) : ∃ nl1 nl2, ArgR [.c (.sl reE), .c (.sl reE)] (l1, l2) [.slice (l1.map (encR reE)) nl1 .no, .slice (l2.map (encR reE)) nl2 .no] ∧ R1 (cellsOf w) noE (.slice (l1.map (encR reE)) nl1 .no) v1 ∧ R1 (cellsOf w) noE (.slice (l2.map (encR reE)) nl2 .no) v2 := by
  obtain ⟨n1, h1, _, k1⟩ := cells_sl s1
  obtain ⟨n2, h2, _, k2⟩ := cells_sl s2
  exact ⟨n1, n2, ⟨[cellW (.sl reE) l1, cellW (.sl reE) l2], rfl, sl_args h1, sl_args h2, trivial⟩, k1, k2⟩
theorem same_calls {w : World} {v1 v2 : Value} {l1 l2 : List V.R10.En} {r : Bool} (s1 : Sl w v1 l1) (s2 : Sl w v2 l2) (hr : ref09_Same (l1, l2) = some r) : Calls Tryz.prog 15 #[v1, v2] w fun e w' => e = .returned (.bool r) ∧ Below w.heap.size w w' := by
  obtain ⟨n1, n2, ha, k1, k2⟩ := two_sl s1 s2
  refine calls_val (vs := [v1, v2]) (s_ref09_Same (z := fun _ => none)) (x := (l1, l2)) hr ha (by kernel_rfl) Tryz.func15 rfl (by kernel_rfl) (fun x hx => ?_) rfl (fun j x v hx hv => ?_) (fun rv h => res_bool h)
  · simp at hx; rcases hx with rfl | rfl <;> exact noId_sl _ _
  · match j with
    | 0 => cases hx; cases hv; exact k1
    | 1 => cases hx; cases hv; exact k2
    | j + 2 => simp at hx
/-- A function of the evaluator, called: its result as it lies in memory. -/
theorem calls_res {n : Nat} {a rs : List SV} {F : Tl (dynL a) → Option (Tl (dynL rs))} (hs : FSound c0 ⟨⟨n, a, rs⟩, F⟩) {x : Tl (dynL a)} {y : Tl (dynL rs)} (hF : F x = some y) {xs : List AV} (ha : ArgR a x xs)
    {fn : Func} {c : Code} (he : c0.ext n = none) (hf : Tryz.prog.funcs[n]? = some fn) (hb : fn.body = some c) (hname : (fn.name == "runtime.NumGoroutine") = false)
    {W : World} {vs : List Value} (hni : ∀ x ∈ xs, NoId x) (hl : vs.length = xs.length) (hR : ∀ (j : Nat) (x : AV) (v : Value), xs[j]? = some x → vs[j]? = some v → R1 (cellsOf W) noE x v) : Calls Tryz.prog n vs.toArray W fun e w' => ∃ rv v E, e = .returned v ∧ Below W.heap.size W w' ∧ ResR rs y rv ∧ R1 (cellsOf w') E rv v := by
  obtain ⟨rv, h1, h2⟩ := hs x y hF xs ha
  obtain ⟨H', h⟩ := ev_of he h1
  have hp : HPre W (cellsOf W) noE [] := ⟨mem_cellsOf W, fun l b hb => (by cases hb), fun l cs hl => (by simp at hl), fun l l' b hb => (by cases hb)⟩
  have hc := evK_sound mixed ext0 h W (cellsOf W) noE vs hp hni hl hR
  have hcall : (callFunc n vs.toArray).run Tryz.prog W = .ok (.enter n vs.toArray) W := by
    simp [callFunc, Sem.run_bind, hf, hb]
    intro hn
    simp [hn] at hname
  rcases hc with ⟨v, w', h1, _⟩ | ⟨_, h3⟩
  · rw [show c0.P = Tryz.prog from rfl, hcall] at h1
    cases h1
  · refine callsIn_wide.1 ((h3 0).mono fun e w' he => ?_)
    obtain ⟨v, rfl, S', E', φ, hpost⟩ := he
    exact ⟨rv, v, E', rfl, bel_below hpost.bel, h2, hpost.rv.mono (fun ad u h => hpost.mem ad u h) (fun l b h => h)⟩
/-- A row of strings as a value. -/
def SlS (w : World) (v : Value) (cs : List (List UInt8)) : Prop := ∃ nl, (nl = true → cs = []) ∧ R1 (cellsOf w) noE (.slice (cs.map (encR (.one .str))) nl .no) v
theorem SlS.below {w w' : World} {v : Value} {cs : List (List UInt8)} (h : SlS w v cs) (hb : Below w.heap.size w w') : SlS w' v cs := by
  obtain ⟨nl, h1, h2⟩ := h
  exact ⟨nl, h1, h2.mono (fun a u hu => (hb.cell (World.block_lt_of_cell? w a hu)).trans hu) (fun l b h => h)⟩
theorem slS_of_R1 {w : World} {E : Nat → Option Nat} {cs : List (List UInt8)} {rows : List (List AV)} {nl : Bool} {o : V.Own} {v : Value} (h : R1 (cellsOf w) E (.slice rows nl o) v) (hd : All2 (rowR (.one .str)) cs rows) : SlS w v cs := by
  have hrows : ∀ (rows : List (List AV)) (cs : List (List UInt8)), All2 (rowR (.one .str)) cs rows → rows = cs.map (encR (.one .str)) := by
    intro rows
    induction rows with
    | nil => intro cs h; cases cs with
      | nil => rfl
      | cons => exact h.elim
    | cons row rows ih => intro cs h; cases cs with
      | nil => exact h.elim
      | cons c cs =>
        have e := encR_R (.one .str) c row rfl h.1
        rw [e, ih cs h.2]; rfl
  have hr := hrows rows cs hd
  subst hr
  have hat : ∀ i j x, cellAt (cs.map (encR (.one .str))) i j = some x → ∃ u, x = AV.at u := by
    intro i j x hx
    unfold cellAt at hx
    rw [List.getElem?_map] at hx
    cases he : cs[i]? with
    | none => rw [he] at hx; cases hx
    | some e =>
      rw [he] at hx
      match j with
      | 0 => cases hx; exact ⟨_, rfl⟩
      | j + 1 => simp [encR] at hx
  generalize hg : cs.map (encR (.one .str)) = rows at h hat
  cases h with
  | nil =>
    have : cs = [] := List.map_eq_nil_iff.1 hg
    subst this
    exact ⟨true, fun _ => rfl, .nil _⟩
  | slice rows own b off cap sz val hlen hsz hfull hpl hS hR =>
    refine ⟨false, fun e => (by cases e), ?_⟩
    rw [hg]
    refine .slice rows .no b off cap sz val hlen hsz (fun e => by cases e) hpl hS fun i j x hx => ?_
    obtain ⟨u, rfl⟩ := hat i j x hx
    have := hR i j _ hx
    generalize val i j = q at this ⊢
    cases this
    exact .at _
theorem refmerge_calls {w : World} {v1 v2 : Value} {l1 l2 : List V.R10.En} {y : List V.R10.En × (List (List UInt8) × Int)} (s1 : Sl w v1 l1) (s2 : Sl w v2 l2) (hy : ref10_Merge (l1, l2) = some y) :
    Calls Tryz.prog 14 #[v1, v2] w fun e w' => ∃ vm vd, e = .returned (.tuple #[vm, vd, .int .i64 y.2.2]) ∧ Below w.heap.size w w' ∧ Sl w' vm y.1 ∧ SlS w' vd y.2.1 := by
  obtain ⟨n1, n2, ha, k1, k2⟩ := two_sl s1 s2
  refine (calls_res (vs := [v1, v2]) (s_ref10_Merge (z := fun _ => none)) (x := (l1, l2)) hy ha (by kernel_rfl) Tryz.func14 rfl (by kernel_rfl) (fun x hx => ?_) rfl (fun j x v hx hv => ?_)).mono ?_
  · simp at hx; rcases hx with rfl | rfl <;> exact noId_sl _ _
  · match j with
    | 0 => cases hx; cases hv; exact k1
    | 1 => cases hx; cases hv; exact k2
    | j + 2 => simp at hx
  · rintro e w' ⟨rv, v, E, rfl, hb, ⟨ws, vs, h1, rfl, h2⟩, hR⟩
    have h1' : ws = [cellW (.sl reE) y.1, cellW (.sl (.one .str)) y.2.1, WV.int .i64 false y.2.2] := by
      have : some ([cellW (.sl reE) y.1, cellW (.sl (.one .str)) y.2.1, WV.int .i64 false y.2.2], ([] : List WV)) = some (ws, []) := h1
      cases this; rfl
    subst h1'
    rcases vs with _ | ⟨a1, _ | ⟨a2, _ | ⟨a3, _ | ⟨_, _⟩⟩⟩⟩ <;> first | exact h2.elim | exact h2.2.elim | exact h2.2.2.elim | exact h2.2.2.2.elim | skip
    have p1 := h2.1.1
    have p2 := h2.2.1.1
    have p3 := h2.2.2.1.1
    obtain ⟨r1, m1, o1, rfl, d1⟩ := dec_sl p1
    cases p3
    have hR : R1 (cellsOf w') E (.tup [.slice r1 m1 o1, a2, I64 y.2.2]) v := hR
    cases hR with
    | tup _ us hl h =>
      rcases us with _ | ⟨u1, _ | ⟨u2, _ | ⟨u3, _ | ⟨_, _⟩⟩⟩⟩ <;> first | (simp at hl; done) | skip
      have q1 := h 0 _ _ rfl rfl
      have q2 := h 1 _ _ rfl rfl
      have q3 := h 2 _ _ rfl rfl
      cases q3
      cases p2 with
      | sl _ _ _ rows nl own hrow ho =>
        exact ⟨u1, u2, rfl, hb, sl_of_R1 q1 d1, slS_of_R1 q2 hrow.1⟩
end Go.Proofs.W.Q10
