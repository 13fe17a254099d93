/- From a function's plain program to its call: where Scan is called too. -/
import Derived.Test.YtckammfgogiplaaGreatDoorK36
import Derived.Test.YtckammfgogiplaaGreatDoorK37
namespace Go.Proofs.W.Q10
open Go Go.Proofs Go.Proofs.V Go.Proofs.V.A10 Go.Proofs.V.U10 Go.RowKit Go.ChangeShapes Go.WideShapes Go.ChangeAt
set_option linter.unusedVariables false
set_option linter.unusedSimpArgs false
set_option maxRecDepth 100000
/-- A law that holds of all arguments, called. -/
theorem calls_law2 {n : Nat} {a : List SV} {F : Tl (dynL a) → Option Bool} (hs : FSound cfg2 ⟨⟨n, a, [.c .bool]⟩, F⟩) {x : Tl (dynL a)} (hx : F x = some true) {xs : List AV} (ha : ArgR a x xs)
    {fn : Func} {c : Code} (he : cfg2.ext n = none) (hf : Tryz.prog.funcs[n]? = some fn) (hb : fn.body = some c) (hname : (fn.name == "runtime.NumGoroutine") = false)
    {W : World} {vs : List Value} (hni : ∀ x ∈ xs, NoId x) (hl : vs.length = xs.length) (hR : ∀ (j : Nat) (x : AV) (v : Value), xs[j]? = some x → vs[j]? = some v → R1 (cellsOfW W) noE x v) :
    Calls Tryz.prog n vs.toArray W fun e w' => e = .returned (.bool true) ∧ Below W.heap.size W w' := by
  obtain ⟨rv, h1, h2⟩ := hs x true hx xs ha
  obtain rfl := res_true h2
  obtain ⟨H', h3⟩ := ev_of he h1
  exact calls_of_evK (cfg := cfg2) mixed ext2 hf hb hname h3 (mem_cells W) hni hl hR
end Go.Proofs.W.Q10
