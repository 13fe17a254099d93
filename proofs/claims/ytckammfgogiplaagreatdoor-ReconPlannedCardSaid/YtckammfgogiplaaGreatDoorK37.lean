/- Floating point numbers that are counts: 0 .. 2^31, exact. -/
import Derived.Test.YtckammfgogiplaaGreatDoorK20
namespace Go.Proofs.W.Q9
open Go Go.Proofs Ieee
set_option linter.unusedVariables false
set_option linter.unusedSimpArgs false
set_option maxRecDepth 100000
end Go.Proofs.W.Q9
