/- Results that are new: rows that may be written. -/
import Derived.Test.YtnjfjjmlonalhaaDoorK24
import Derived.Laws.CopyOwn
namespace Go.Proofs.W.C
open Go Go.Proofs Go.Proofs.V Go.Proofs.W Go.RowKit
set_option linter.unusedVariables false
set_option linter.unusedSimpArgs false
set_option maxRecDepth 100000
theorem row_at {w : World} {g : Nat} {cur : Array Value} {t : TypeId} {f : Nat × Nat} (hg : w.heap[g]? = some (.cells cur t f)) (j : Nat) : w.cell? ⟨g, j, none⟩ = cur[j]? := by
  rw [cell_of_row w g j cur t f hg]
theorem row_thaw {w : World} {g : Nat} {cur : Array Value} {t : TypeId} (hg : w.heap[g]? = some (.cells cur t (0, 0))) (j : Nat) : w.frozen? ⟨g, j, none⟩ = false := by
  simp [World.frozen?, hg]
/-- A row that came into being behind 'base', and that nothing froze. -/
def Wr (w : World) (base n sz : Nat) (v : Value) : Prop := n = 0 ∨ ∃ b cap vs ty, v = .slice (some ⟨b, 0, none⟩) n cap ∧ base ≤ b ∧ w.heap[b]? = some (.cells vs ty (0, 0)) ∧ n * sz ≤ vs.size
theorem Wr.at {w : World} {base n sz : Nat} {v : Value} (h : Wr w base n sz v) {k : Nat} (hk : k < n) (hsz : 0 < sz) : ∃ b cap u, v = .slice (some ⟨b, 0, none⟩) n cap ∧ base ≤ b ∧ w.cell? ⟨b, k * sz, none⟩ = some u ∧ w.frozen? ⟨b, k * sz, none⟩ = false := by
  rcases h with h | ⟨b, cap, vs, ty, rfl, hb, hh, hs⟩
  · omega
  · have hlt : k * sz < vs.size := by
      have : (k + 1) * sz ≤ n * sz := Nat.mul_le_mul_right _ hk
      rw [Nat.add_mul] at this
      omega
    exact ⟨b, cap, vs[k * sz], rfl, hb, by rw [row_at hh]; exact Array.getElem?_eq_getElem hlt, row_thaw hh _⟩
theorem Wr.set {w : World} {base n sz : Nat} {v : Value} (h : Wr w base n sz v) (a : Addr) (u : Value) : Wr (w.setCell a u) base n sz v := by
  rcases h with h | ⟨b, cap, vs, ty, rfl, hb, hh, hs⟩
  · exact .inl h
  · by_cases e : a.block = b
    · subst e
      refine .inr ⟨a.block, cap, if a.spot.isSome then vs else vs.setIfInBounds a.off u, ty, rfl, hb, ?_, by split <;> simpa using hs⟩
      unfold World.setCell
      simp only [Array.getElem?_modify, hh, if_true]
      rfl
    · exact .inr ⟨b, cap, vs, ty, rfl, hb, by rw [Below.heap_setCell w a u b (fun h => e h.symm)]; exact hh, hs⟩
theorem Wr.below {w w' : World} {base n sz : Nat} {v : Value} (h : Wr w base n sz v) (hb : Below w.heap.size w w') : Wr w' base n sz v := by
  rcases h with h | ⟨b, cap, vs, ty, rfl, hb0, hh, hs⟩
  · exact .inl h
  · have hlt : b < w.heap.size := (Array.getElem?_eq_some_iff.1 hh).1
    exact .inr ⟨b, cap, vs, ty, rfl, hb0, by rw [hb.block b hlt]; exact hh, hs⟩
section
variable {cfg : Cfg} {n : Nat} {a rs : List SV} {F : Tl (dynL a) → Option (Tl (dynL rs))} {x : Tl (dynL a)} {y : Tl (dynL rs)} {w : World} {vs : List Value} {fn : Func} {c : Code}
/-- A call, with all that is told of it. -/
theorem callsP (K : Ok cfg) (hs : FSound cfg ⟨⟨n, a, rs⟩, F⟩) (hF : F x = some y) (ha : Args a x w vs) (hf : cfg.P.funcs[n]? = some fn) (hb : fn.body = some c) (hname : (fn.name == "runtime.NumGoroutine") = false) :
    Calls cfg.P n vs.toArray w fun e w' => ∃ rv v H' S' E' φ, e = .returned v ∧ ResR rs y rv ∧ CPost w (cellsOf w) noE rv H' v S' E' φ w' := by
  obtain ⟨xs, hx, hni, hl, hR⟩ := ha
  obtain ⟨rv, h1, h2⟩ := hs x y hF xs hx
  obtain ⟨H', hc⟩ := csound_of K h1
  have hp : HPre w (cellsOf w) noE [] := ⟨mem_cellsOf w, fun l b hb => (by cases hb), fun l cs hl => (by simp at hl), fun l l' b hb => (by cases hb)⟩
  have hc := hc w (cellsOf w) noE vs hp hni hl hR
  have hcall : (callFunc n vs.toArray).run cfg.P w = .ok (.enter n vs.toArray) w := by
    simp [callFunc, Sem.run_bind, hf, hb]
    intro hn
    simp [hn] at hname
  rcases hc with ⟨v, w', h1, _⟩ | ⟨_, h3⟩
  · rw [hcall] at h1
    cases h1
  · refine callsIn_wide.1 ((h3 0).mono fun e w' he => ?_)
    obtain ⟨v, rfl, S', E', φ, hpost⟩ := he
    exact ⟨rv, v, H', S', E', φ, rfl, h2, hpost⟩
end
section
variable {cfg : Cfg} {n : Nat} {a : List SV} {x : Tl (dynL a)} {w : World} {vs : List Value} {fn : Func} {c : Code}
theorem wr_of {r : RT} {u : AV} {v : Value} {l : List (Tr r)} {w w' : World} {S' : Addr → Option Value} {E' : Nat → Option Nat} {φ : Nat → Rw} {rv : AV} {H' : List (List AV)} {V : Value} (hpost : CPost w (cellsOf w) noE rv H' V S' E' φ w') (j : Nat) (hj : (parts rv)[j]? = some u) (hv : (vparts V)[j]? = some v)
    (hp : PartR (.fr r) (cellW (.sl r) l) u) : Wr w' w.heap.size l.length (rlen r) v := by
  obtain ⟨rows, nl, o, rfl, ho⟩ := hp.2 rfl
  have hrow : All2 (rowR r) l rows := by
    have h1 := hp.1
    cases h1 with
    | sl _ _ _ _ _ _ h _ _ => exact h.1
  rcases ho with ⟨_, rfl⟩ | rfl
  · left
    cases l with
    | nil => rfl
    | cons => exact hrow.elim
  · obtain ⟨rfl, _, hlen, hsz, hb, ⟨cur, ty, hh, hcs⟩, ⟨h0, hle⟩, _⟩ := hpost.fresh j v rows nl hj hv
    have hl : l.length = rows.length := hrow.len
    right
    refine ⟨(φ j).b, (φ j).cap, cur, ty, by rw [hl], hb, hh, ?_⟩
    have hne : rows ≠ [] := fun e => by rw [e] at hlen; simp at hlen; omega
    obtain ⟨row, rows', rfl⟩ := List.exists_cons_of_ne_nil hne
    have h1 := hsz row (by simp)
    cases l with
    | nil => exact hrow.elim
    | cons z l =>
      have h2 := rowR_len r z row hrow.1
      rw [hcs, ← h1, h2, hl, hlen]
      exact Nat.mul_le_mul_right _ hle
/-- A call with a new row, a row, and a number for results. -/
theorem callsF3 (K : Ok cfg) {r : RT} (hf0 : flatRT r = true) {d2 d3 : CT} (f2 : flatC d2 = true) (f3 : flatC d3 = true) {F : Tl (dynL a) → Option (Tl (dynL [.fr r, .c d2, .c d3]))} (hs : FSound cfg ⟨⟨n, a, [.fr r, .c d2, .c d3]⟩, F⟩) {y : List (Tr r) × (Tc d2 × Tc d3)} (hF : F x = some y) (ha : Args a x w vs) (hf : cfg.P.funcs[n]? = some fn) (hb : fn.body = some c) (hname : (fn.name == "runtime.NumGoroutine") = false) :
    Calls cfg.P n vs.toArray w fun e w' => ∃ v1 v2 v3, e = .returned (.tuple #[v1, v2, v3]) ∧ Below w.heap.size w w' ∧ CR (.sl r) y.1 w' v1 ∧ Wr w' w.heap.size y.1.length (rlen r) v1 ∧ CR d2 y.2.1 w' v2 ∧ CR d3 y.2.2 w' v3 := by
  refine (callsP K hs hF ha hf hb hname).mono fun e w' ⟨rv, v, H', S', E', φ, h1, h3, hpost⟩ => ?_
  subst h1
  obtain ⟨ws, as, q1, rfl, q2⟩ := h3
  have q1' : ws = [cellW (.sl r) y.1, cellW d2 y.2.1, cellW d3 y.2.2] := by
    have : some ([cellW (.sl r) y.1, cellW d2 y.2.1, cellW d3 y.2.2], ([] : List WV)) = some (ws, []) := q1
    cases this; rfl
  subst q1'
  rcases as with _ | ⟨a1, _ | ⟨a2, _ | ⟨a3, _ | ⟨_, _⟩⟩⟩⟩ <;> first | exact q2.elim | exact q2.2.elim | exact q2.2.2.elim | exact q2.2.2.2.elim | skip
  have hR : R1 (cellsOf w') E' (.tup [a1, a2, a3]) v := hpost.rv.mono (fun ad u h => hpost.mem ad u h) (fun l b h => h)
  cases hR with
  | tup _ us hl h =>
    rcases us with _ | ⟨u1, _ | ⟨u2, _ | ⟨u3, _ | ⟨_, _⟩⟩⟩⟩ <;> first | (simp at hl; done) | skip
    exact ⟨u1, u2, u3, rfl, bel_below hpost.bel, cr_res (c := .sl r) hf0 q2.1.1 (h 0 _ _ rfl rfl), wr_of hpost 0 rfl rfl q2.1, cr_res f2 q2.2.1.1 (h 1 _ _ rfl rfl), cr_res f3 q2.2.2.1.1 (h 2 _ _ rfl rfl)⟩
/-- A call with a new row for a result. -/
theorem callsF1 (K : Ok cfg) {r : RT} (hf0 : flatRT r = true) {F : Tl (dynL a) → Option (Tl (dynL [.fr r]))} (hs : FSound cfg ⟨⟨n, a, [.fr r]⟩, F⟩) {y : List (Tr r)} (hF : F x = some y) (ha : Args a x w vs) (hf : cfg.P.funcs[n]? = some fn) (hb : fn.body = some c) (hname : (fn.name == "runtime.NumGoroutine") = false) :
    Calls cfg.P n vs.toArray w fun e w' => ∃ v, e = .returned v ∧ Below w.heap.size w w' ∧ CR (.sl r) y w' v ∧ Wr w' w.heap.size y.length (rlen r) v := by
  refine (callsP K hs hF ha hf hb hname).mono fun e w' ⟨rv, v, H', S', E', φ, h1, h3, hpost⟩ => ?_
  subst h1
  obtain ⟨ws, as, q1, rfl, q2⟩ := h3
  have q1' : ws = [cellW (.sl r) y] := by
    have : some ([cellW (.sl r) y], ([] : List WV)) = some (ws, []) := q1
    cases this; rfl
  subst q1'
  rcases as with _ | ⟨a1, _ | ⟨_, _⟩⟩ <;> first | exact q2.elim | exact q2.2.elim | skip
  have hR : R1 (cellsOf w') E' a1 v := hpost.rv.mono (fun ad u h => hpost.mem ad u h) (fun l b h => h)
  obtain ⟨rows, nl, o, e, _⟩ := q2.1.2 rfl
  subst e
  have hcr := cr_res (c := .sl r) hf0 q2.1.1 hR
  obtain ⟨ao, cap, hv⟩ : ∃ ao cap, v = .slice ao rows.length cap := by
    cases hR with
    | nil => exact ⟨none, 0, rfl⟩
    | slice => exact ⟨_, _, rfl⟩
  subst hv
  exact ⟨_, rfl, bel_below hpost.bel, hcr, wr_of hpost 0 rfl rfl q2.1⟩
end
end Go.Proofs.W.C
