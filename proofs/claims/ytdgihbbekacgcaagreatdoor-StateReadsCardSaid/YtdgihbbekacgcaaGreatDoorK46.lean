/- A drawn region in the midst of a walk, by the evaluator: slots that it does not write stay. -/
import Derived.Test.YtdgihbbekacgcaaGreatDoorK42
namespace Go.Proofs.V
open Go Go.RowKit
set_option linter.unusedVariables false
set_option linter.unusedSimpArgs false
section
variable {E0 : Nat → Prop} {w0 : Ent}
end
end Go.Proofs.V
namespace Go.Proofs.W.C
open Go Go.Proofs Go.Proofs.V Go.Proofs.W Go.RowKit
set_option linter.unusedVariables false
set_option linter.unusedSimpArgs false
set_option maxRecDepth 100000
end Go.Proofs.W.C
