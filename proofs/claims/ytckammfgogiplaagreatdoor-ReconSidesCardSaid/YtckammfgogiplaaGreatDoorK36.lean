/- From a function's plain program to its call: the laws of chapter 10. -/
import Derived.Test.YtckammfgogiplaaGreatDoorK34
import Derived.Test.YtckammfgogiplaaGreatDoorK35
namespace Go.Proofs.W.Q10
open Go Go.Proofs Go.Proofs.V Go.Proofs.V.A10 Go.Proofs.V.U10 Go.RowKit Go.ChangeShapes Go.WideShapes Go.ChangeAt
set_option linter.unusedVariables false
set_option linter.unusedSimpArgs false
set_option maxRecDepth 100000
/-- What stands for the walked functions. -/
noncomputable def z1 : Nat → Option (List AV → Option AV) := fun f => if f = 13 then some mergeExt else if f = 22 then some settleExt else if f = 46 then some concatExt else none
theorem sl_arg (r : RT) (hf : flatRT r = true) {l : List (Tr r)} {nl : Bool} (h : l = [] ∨ nl = false) : All2 (rowR r) l (l.map (encR r)) ∧ (nl = true → l.map (encR r) = []) :=
  ⟨rows_enc r hf l, fun hn => by rcases h with rfl | rfl; · rfl
                                 · cases hn⟩
theorem res_true {b : Bool} {rv : AV} (h : ResR [.c .bool] b rv) : rv = BO b := by
  obtain ⟨ws, vs, h1, rfl, h2⟩ := h
  have h1' : ws = [WV.bool false b] := by
    have : some ([WV.bool false b], ([] : List WV)) = some (ws, []) := h1
    cases this; rfl
  subst h1'
  cases vs with
  | nil => exact h2.elim
  | cons v vs => cases vs with
    | cons => exact h2.2.elim
    | nil =>
      have := h2.1.1
      cases this
      rfl
end Go.Proofs.W.Q10
