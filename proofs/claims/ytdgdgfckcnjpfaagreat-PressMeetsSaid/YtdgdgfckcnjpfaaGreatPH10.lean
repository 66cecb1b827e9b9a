/- Plain facts: what the document presses. Conditions: none. -/
import Derived.Test.YtdgdgfckcnjpfaaGreatPH9
namespace Go.Proofs.YtdgdgfckcnjpfaaGreat.Abs
open Go Go.RowKit Go.IntWalk
set_option linter.unusedVariables false
set_option linter.unusedSimpArgs false
set_option linter.unusedSectionVars false
set_option linter.unnecessarySimpa false
set_option maxRecDepth 100000
end Go.Proofs.YtdgdgfckcnjpfaaGreat.Abs
