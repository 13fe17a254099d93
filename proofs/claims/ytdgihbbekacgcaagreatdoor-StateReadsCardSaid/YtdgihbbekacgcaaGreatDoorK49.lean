/- StateTells, whole; its arguments read. -/
import Derived.Test.YtdgihbbekacgcaaGreatDoorK47
import Derived.Test.YtdgihbbekacgcaaGreatDoorK48
namespace Go.Proofs.V.T17
open Go Go.Proofs Go.RowKit Go.Lib Go.Proofs.V Go.Proofs.V.L17 Go.Proofs.W Go.Proofs.W.C
set_option linter.unusedVariables false
set_option linter.unusedSimpArgs false
set_option maxRecDepth 100000
section
variable {H : Type} {enc : TypeId × Value → H} {W : World}
end
end Go.Proofs.V.T17
