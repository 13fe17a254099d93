/- small, reckoned. -/
import Derived.Test.YtdgihbbekacgcaaGreatDoorK20
import Derived.KernelRfl
namespace Go.Proofs.W.Q10
open Go Go.Proofs.V
set_option linter.unusedVariables false
set_option linter.unusedSimpArgs false
set_option maxRecDepth 100000
set_option maxHeartbeats 4000000
end Go.Proofs.W.Q10
