/- From a function's plain program to its call: the laws of chapter 10. -/
import Derived.Test.YtckammfgogiplaaGreatDoorK33
import Derived.Test.YtckammfgogiplaaGreatDoorK34
namespace Go.Proofs.W.Q10
open Go Go.Proofs Go.Proofs.V Go.Proofs.V.A10 Go.Proofs.V.U10 Go.RowKit Go.ChangeShapes Go.WideShapes Go.ChangeAt
set_option linter.unusedVariables false
set_option linter.unusedSimpArgs false
set_option maxRecDepth 100000
/-- What stands for the walked functions. -/
noncomputable def z1 : Nat → Option (List AV → Option AV) := fun f => if f = 13 then some mergeExt else if f = 22 then some settleExt else if f = 46 then some concatExt else none
theorem zok : ZOk z1 := ⟨rfl, rfl, rfl⟩
theorem z1_ok : ∀ g s xs r, z1 g = some s → s xs = some r → CSound Tryz.prog g xs [] r [] := by
  intro g s xs r hg hs
  unfold z1 at hg
  split at hg
  · rename_i h; subst h; cases hg; exact merge_csound hs
  · split at hg
    · rename_i h; subst h; cases hg; exact settle_csound hs
    · split at hg
      · rename_i h; subst h; cases hg; exact concat_csound hs
      · cases hg
noncomputable abbrev cfg1 : Cfg := cfgZ z1
theorem ext1 : ∀ g s xs r, cfg1.ext g = some s → s xs = some r → CSound cfg1.P g xs [] r [] := ext_ok z1_ok
theorem res_true {b : Bool} {rv : AV} (h : ResR [.c .bool] b rv) : rv = BO b := by
  obtain ⟨ws, vs, h1, rfl, h2⟩ := h
  have h1' : ws = [WV.bool false b] := by
    have : some ([WV.bool false b], ([] : List WV)) = some (ws, []) := h1
    cases this; rfl
  subst h1'
  cases vs with
  | nil => exact h2.elim
  | cons v vs => cases vs with
    | cons => exact h2.2.elim
    | nil =>
      have := h2.1.1
      cases this
      rfl
/-- A law that holds of all arguments, called. -/
theorem calls_law {n : Nat} {a : List SV} {F : Tl (dynL a) → Option Bool} (hs : FSound cfg1 ⟨⟨n, a, [.c .bool]⟩, F⟩) {x : Tl (dynL a)} (hx : F x = some true) {xs : List AV} (ha : ArgR a x xs)
    {fn : Func} {c : Code} (he : cfg1.ext n = none) (hf : Tryz.prog.funcs[n]? = some fn) (hb : fn.body = some c) (hname : (fn.name == "runtime.NumGoroutine") = false)
    {W : World} {vs : List Value} (hni : ∀ x ∈ xs, NoId x) (hl : vs.length = xs.length) (hR : ∀ (j : Nat) (x : AV) (v : Value), xs[j]? = some x → vs[j]? = some v → R1 (cellsOfW W) noE x v) :
    Calls Tryz.prog n vs.toArray W fun e w' => e = .returned (.bool true) ∧ Below W.heap.size W w' := by
  obtain ⟨rv, h1, h2⟩ := hs x true hx xs ha
  obtain rfl := res_true h2
  obtain ⟨H', h3⟩ := ev_of he h1
  exact calls_of_evK (cfg := cfg1) mixed ext1 hf hb hname h3 (mem_cells W) hni hl hR
end Go.Proofs.W.Q10
