/- ScanKeeps, of its plain program: what it calls. -/
import Derived.Test.YtboeaelijjamoaaDoorK30
namespace Go.Proofs.W.Q9
open Go Go.Proofs.V
set_option linter.unusedVariables false
set_option linter.unusedSimpArgs false
end Go.Proofs.W.Q9
