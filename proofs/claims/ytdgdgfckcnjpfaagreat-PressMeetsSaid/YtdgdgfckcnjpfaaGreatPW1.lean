/- Plain facts: the document's sums, sizes, levels, signs. Conditions: none. -/
import Derived.Test.YtdgdgfckcnjpfaaGreatPV5
import Derived.Test.YtdgdgfckcnjpfaaGreatPR3
namespace Go.Proofs.YtdgdgfckcnjpfaaGreat.Abs
open Go Go.RowKit Go.IntWalk
set_option linter.unusedVariables false
set_option linter.unusedSimpArgs false
set_option linter.unnecessarySimpa false
set_option maxRecDepth 100000
end Go.Proofs.YtdgdgfckcnjpfaaGreat.Abs
