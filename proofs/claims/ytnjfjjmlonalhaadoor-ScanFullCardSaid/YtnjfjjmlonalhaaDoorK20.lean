/- From a function's plain program to its call: the laws of chapter 09. -/
import Derived.Test.YtnjfjjmlonalhaaDoorK19
namespace Go.Proofs.W.Q9
open Go Go.Proofs Go.Proofs.V Go.Proofs.V.R9 Go.RowKit Go.ChangeShapes Go.WideShapes Go.ChangeAt
set_option linter.unusedVariables false
set_option linter.unusedSimpArgs false
set_option maxRecDepth 100000
/-- Rows and what they read as. -/
theorem rows_enc (r : RT) (hf : flatRT r = true) : ∀ l : List (Tr r), All2 (rowR r) l (l.map (encR r))
  | [] => trivial
  | x :: l => ⟨encR_row r x hf, rows_enc r hf l⟩
theorem sl_arg (r : RT) (hf : flatRT r = true) {l : List (Tr r)} {nl : Bool} (h : l = [] ∨ nl = false) : All2 (rowR r) l (l.map (encR r)) ∧ (nl = true → l.map (encR r) = []) :=
  ⟨rows_enc r hf l, fun hn => by rcases h with rfl | rfl; · rfl
                                 · cases hn⟩
theorem ev_of {cfg : Cfg} {g : Nat} {xs : List AV} {rv : AV} (he : cfg.ext g = none) (h : callQ cfg (evK cfg) g xs = some rv) : ∃ H', evK cfg g xs [] = some (rv, H') := by
  unfold callQ at h
  rw [he] at h
  cases hk : evK cfg g xs [] with
  | none => rw [hk] at h; cases h
  | some p =>
    rw [hk] at h
    obtain ⟨r, H'⟩ := p
    dsimp only at h
    split at h
    · cases h; exact ⟨H', rfl⟩
    · cases h
theorem res_true {b : Bool} {rv : AV} (h : ResR [.c .bool] b rv) : rv = BO b := by
  obtain ⟨ws, vs, h1, rfl, h2⟩ := h
  have h1' : ws = [WV.bool false b] := by
    have : some ([WV.bool false b], ([] : List WV)) = some (ws, []) := h1
    cases this; rfl
  subst h1'
  cases vs with
  | nil => exact h2.elim
  | cons v vs => cases vs with
    | cons => exact h2.2.elim
    | nil =>
      have := h2.1.1
      cases this
      rfl
theorem noId_sl (rows : List (List AV)) (nl : Bool) : NoId (.slice rows nl .no) := by
  rintro n ⟨y, hy, rows', nl', rfl⟩
  simp [parts] at hy
/-- A law that holds of all arguments, called. -/
theorem calls_law {n : Nat} {a : List SV} {F : Tl (dynL a) → Option Bool} (hs : FSound cfgS ⟨⟨n, a, [.c .bool]⟩, F⟩) {x : Tl (dynL a)} (hx : F x = some true) {xs : List AV} (ha : ArgR a x xs)
    {fn : Func} {c : Code} (he : cfgS.ext n = none) (hf : Tryd.prog.funcs[n]? = some fn) (hb : fn.body = some c) (hname : (fn.name == "runtime.NumGoroutine") = false)
    {W : World} {vs : List Value} (hni : ∀ x ∈ xs, NoId x) (hl : vs.length = xs.length) (hR : ∀ (j : Nat) (x : AV) (v : Value), xs[j]? = some x → vs[j]? = some v → R1 (cellsOfW W) noE x v) :
    Calls Tryd.prog n vs.toArray W fun e w' => e = .returned (.bool true) ∧ Below W.heap.size W w' := by
  obtain ⟨rv, h1, h2⟩ := hs x true hx xs ha
  obtain rfl := res_true h2
  obtain ⟨H', h3⟩ := ev_of he h1
  exact calls_of_evK (cfg := cfgS) mixed extS hf hb hname h3 (mem_cells W) hni hl hR
end Go.Proofs.W.Q9
