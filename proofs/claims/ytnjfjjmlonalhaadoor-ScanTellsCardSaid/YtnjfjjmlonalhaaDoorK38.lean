/- Results that do not lie where the caller will write. -/
import Derived.Test.YtnjfjjmlonalhaaDoorK25
namespace Go.Proofs.W.C
open Go Go.Proofs Go.Proofs.V Go.Proofs.W Go.RowKit
set_option linter.unusedVariables false
set_option linter.unusedSimpArgs false
set_option maxRecDepth 100000
theorem slS_of_R1 {r : RT} (hf : flatRT r = true) {S : Addr → Option Value} {E : Nat → Option Nat} {l : List (Tr r)} {rows : List (List AV)} {nl : Bool} {o : V.Own} {v : Value} (h : R1 S E (.slice rows nl o) v) (hd : All2 (rowR r) l rows) : ∃ nl, (nl = true → l = []) ∧ R1 S noE (.slice (l.map (encR r)) nl .no) v := by
  have hr := rows_eq r hf rows l hd
  subst hr
  have hat : ∀ i j x, cellAt (l.map (encR r)) i j = some x → ∃ u, x = AV.at u := by
    intro i j x hx
    unfold cellAt at hx
    rw [List.getElem?_map] at hx
    cases he : l[i]? with
    | none => rw [he] at hx; cases hx
    | some e =>
      rw [he] at hx
      exact encR_at r e hf x (List.mem_of_getElem? hx)
  generalize hg : l.map (encR r) = rows at h hat
  cases h with
  | nil =>
    have : l = [] := List.map_eq_nil_iff.1 hg
    subst this
    exact ⟨true, fun _ => rfl, .nil _⟩
  | slice rows own b off cap sz val hlen hsz hfull hpl hS hR =>
    refine ⟨false, fun e => (by cases e), ?_⟩
    refine .slice rows .no b off cap sz val hlen hsz (fun e => by cases e) hpl hS fun i j x hx => ?_
    obtain ⟨u, rfl⟩ := hat i j x hx
    have := hR i j _ hx
    generalize val i j = q at this ⊢
    cases this
    exact .at _
/-- Cells, but for those between N and M, and behind T. -/
def mk (N M T : Nat) (w : World) : Addr → Option Value := fun ad => if (N ≤ ad.block ∧ ad.block < M) ∨ T ≤ ad.block then none else w.cell? ad
def SlM (N M T : Nat) (r : RT) (w : World) (v : Value) (l : List (Tr r)) : Prop := ∃ nl, (nl = true → l = []) ∧ R1 (mk N M T w) noE (.slice (l.map (encR r)) nl .no) v
theorem SlM.sl {N M T : Nat} {r : RT} {w : World} {v : Value} {l : List (Tr r)} (h : SlM N M T r w v l) : SlR r w v l := by
  obtain ⟨nl, h1, h2⟩ := h
  refine ⟨nl, h1, h2.mono (fun a u hu => ?_) (fun l b h => h)⟩
  unfold mk at hu
  split at hu
  · cases hu
  · exact hu
theorem SlM.below {N M T : Nat} {r : RT} {w w' : World} {v : Value} {l : List (Tr r)} (h : SlM N M T r w v l) (hb : Below w.heap.size w w') : SlM N M T r w' v l := by
  obtain ⟨nl, h1, h2⟩ := h
  refine ⟨nl, h1, h2.mono (fun a u hu => ?_) (fun l b h => h)⟩
  unfold mk at hu ⊢
  split at hu
  · cases hu
  · rename_i hc
    rw [if_neg hc]
    exact (hb.cell (World.block_lt_of_cell? w a hu)).trans hu
theorem SlM.set {N M T : Nat} {r : RT} {w : World} {v : Value} {l : List (Tr r)} (h : SlM N M T r w v l) (a : Addr) (u : Value) (ha : (N ≤ a.block ∧ a.block < M) ∨ T ≤ a.block) : SlM N M T r (w.setCell a u) v l := by
  obtain ⟨nl, h1, h2⟩ := h
  refine ⟨nl, h1, h2.mono (fun ad x hu => ?_) (fun l b h => h)⟩
  unfold mk at hu ⊢
  split at hu
  · cases hu
  · rename_i hc
    rw [if_neg hc]
    have hne : ad.block ≠ a.block := fun e => hc (by rw [e]; exact ha)
    exact (World.cell?_of_block (w := w) (Below.heap_setCell w a u ad.block hne)).trans hu
section
variable {cfg : Cfg} {n : Nat} {a rs : List SV} {F : Tl (dynL a) → Option (Tl (dynL rs))} {x : Tl (dynL a)} {y : Tl (dynL rs)} {w w0 : World} {vs : List Value} {fn : Func} {c : Code}
/-- A call whose results lie where its arguments lie, or in new blocks. -/
theorem callsN (K : Ok cfg) (hs : FSound cfg ⟨⟨n, a, rs⟩, F⟩) (hF : F x = some y) (ha : Args a x w0 vs) (hbw : Below w0.heap.size w0 w) (hf : cfg.P.funcs[n]? = some fn) (hb : fn.body = some c) (hname : (fn.name == "runtime.NumGoroutine") = false) :
    Calls cfg.P n vs.toArray w fun e w' => ∃ rv v S' E', e = .returned v ∧ ResR rs y rv ∧ Below w.heap.size w w' ∧ R1 S' E' rv v ∧ ∀ ad u, S' ad = some u → w'.cell? ad = some u ∧ (ad.block < w0.heap.size ∨ w.heap.size ≤ ad.block) := by
  obtain ⟨xs, hx, hni, hl, hR⟩ := ha
  obtain ⟨rv, h1, h2⟩ := hs x y hF xs hx
  obtain ⟨H', hc⟩ := csound_of K h1
  have hp : HPre w (fun ad => if ad.block < w0.heap.size then w.cell? ad else none) noE [] := ⟨fun ad v h => (by
    by_cases hc : ad.block < w0.heap.size
    · rw [if_pos hc] at h; exact h
    · rw [if_neg hc] at h; cases h), fun l b hb => (by cases hb), fun l cs hl => (by simp at hl), fun l l' b hb => (by cases hb)⟩
  have hc := hc w _ noE vs hp hni hl (fun j y v hy hv => (hR j y v hy hv).mono (fun ad u hu => by
    have hlt : ad.block < w0.heap.size := World.block_lt_of_cell? w0 ad hu
    rw [if_pos hlt]
    exact (hbw.cell hlt).trans hu) (fun l b h => h))
  have hcall : (callFunc n vs.toArray).run cfg.P w = .ok (.enter n vs.toArray) w := by
    simp [callFunc, Sem.run_bind, hf, hb]
    intro hn
    simp [hn] at hname
  rcases hc with ⟨v, w', h1, _⟩ | ⟨_, h3⟩
  · rw [hcall] at h1
    cases h1
  · refine callsIn_wide.1 ((h3 0).mono fun e w' he => ?_)
    obtain ⟨v, rfl, S', E', φ, hpost⟩ := he
    refine ⟨rv, v, S', E', rfl, h2, bel_below hpost.bel, hpost.rv, fun ad u hu => ⟨hpost.mem ad u hu, ?_⟩⟩
    by_cases h1 : ad.block < w0.heap.size
    · exact .inl h1
    · refine .inr ?_
      rcases Nat.lt_or_ge ad.block w.heap.size with h2 | h2
      · have := hpost.sN ad (by rw [if_neg h1]) h2
        rw [hu] at this
        cases this
      · exact h2
end
section
variable {cfg : Cfg} {n : Nat} {a : List SV} {x : Tl (dynL a)} {w w0 : World} {vs : List Value} {fn : Func} {c : Code}
theorem callsN3 (K : Ok cfg) {r : RT} (hf0 : flatRT r = true) {d2 d3 : CT} (f2 : flatC d2 = true) (f3 : flatC d3 = true) {F : Tl (dynL a) → Option (Tl (dynL [.c (.sl r), .c d2, .c d3]))} (hs : FSound cfg ⟨⟨n, a, [.c (.sl r), .c d2, .c d3]⟩, F⟩) {y : List (Tr r) × (Tc d2 × Tc d3)} (hF : F x = some y) (ha : Args a x w0 vs) (hbw : Below w0.heap.size w0 w) (hf : cfg.P.funcs[n]? = some fn) (hb : fn.body = some c) (hname : (fn.name == "runtime.NumGoroutine") = false) :
    Calls cfg.P n vs.toArray w fun e w' => ∃ v1 v2 v3, e = .returned (.tuple #[v1, v2, v3]) ∧ Below w.heap.size w w' ∧ SlM w0.heap.size w.heap.size w'.heap.size r w' v1 y.1 ∧ CR d2 y.2.1 w' v2 ∧ CR d3 y.2.2 w' v3 := by
  refine (callsN K hs hF ha hbw hf hb hname).mono fun e w' ⟨rv, v, S', E', h1, h3, hbel, hR, hS⟩ => ?_
  subst h1
  obtain ⟨ws, as, q1, rfl, q2⟩ := h3
  have q1' : ws = [cellW (.sl r) y.1, cellW d2 y.2.1, cellW d3 y.2.2] := by
    have : some ([cellW (.sl r) y.1, cellW d2 y.2.1, cellW d3 y.2.2], ([] : List WV)) = some (ws, []) := q1
    cases this; rfl
  subst q1'
  rcases as with _ | ⟨a1, _ | ⟨a2, _ | ⟨a3, _ | ⟨_, _⟩⟩⟩⟩ <;> first | exact q2.elim | exact q2.2.elim | exact q2.2.2.elim | exact q2.2.2.2.elim | skip
  have hR : R1 S' E' (.tup [a1, a2, a3]) v := hR
  cases hR with
  | tup _ us hl h =>
    rcases us with _ | ⟨u1, _ | ⟨u2, _ | ⟨u3, _ | ⟨_, _⟩⟩⟩⟩ <;> first | (simp at hl; done) | skip
    have mw : ∀ {A : AV} {V : Value}, R1 S' E' A V → R1 (cellsOf w') E' A V := fun h => h.mono (fun ad u hu => (hS ad u hu).1) (fun l b h => h)
    refine ⟨u1, u2, u3, rfl, hbel, ?_, cr_res f2 q2.2.1.1 (mw (h 1 _ _ rfl rfl)), cr_res f3 q2.2.2.1.1 (mw (h 2 _ _ rfl rfl))⟩
    have h0 := h 0 _ _ rfl rfl
    have g0 := q2.1.1
    cases g0 with
    | sl _ _ _ rows nl own hrow ho =>
      obtain ⟨nl', k1, k2⟩ := slS_of_R1 hf0 h0 hrow.1
      refine ⟨nl', k1, k2.mono (fun ad u hu => ?_) (fun l b h => h)⟩
      obtain ⟨m1, m2⟩ := hS ad u hu
      have hlt := World.block_lt_of_cell? w' ad m1
      unfold mk
      rw [if_neg (by omega)]
      exact m1
end
end Go.Proofs.W.C
