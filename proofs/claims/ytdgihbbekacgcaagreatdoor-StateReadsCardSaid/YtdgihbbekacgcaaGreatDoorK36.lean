/- ScanKeeps, of its plain program. -/
import Derived.Test.YtdgihbbekacgcaaGreatDoorK28
namespace Go.Proofs.W.Q9
open Go Go.Proofs.V
set_option linter.unusedVariables false
set_option linter.unusedSimpArgs false
end Go.Proofs.W.Q9
namespace Go.Proofs.W.Q9
open Go Go.Proofs.V
set_option linter.unusedVariables false
set_option linter.unusedSimpArgs false
end Go.Proofs.W.Q9
