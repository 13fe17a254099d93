/- Scan: the document's answer is the program's. -/
import Derived.Test.YtdgihbbekacgcaaGreatDoorK29
namespace Go.Proofs.W.Q10
open Go Go.Proofs.V Go.Proofs.W.Q9
set_option linter.unusedVariables false
set_option linter.unusedSimpArgs false
end Go.Proofs.W.Q10
