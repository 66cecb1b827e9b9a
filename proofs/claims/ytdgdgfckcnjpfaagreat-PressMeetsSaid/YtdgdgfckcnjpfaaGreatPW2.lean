/- Plain facts: the document presses and loosens likewise. Conditions: none. -/
import Derived.Test.YtdgdgfckcnjpfaaGreatPW1
import Derived.Test.YtdgdgfckcnjpfaaGreatPH10
import Derived.Test.YtdgdgfckcnjpfaaGreatPV6
namespace Go.Proofs.YtdgdgfckcnjpfaaGreat.Abs
open Go Go.RowKit Go.IntWalk
set_option linter.unusedVariables false
set_option linter.unusedSimpArgs false
set_option linter.unnecessarySimpa false
set_option maxRecDepth 100000
end Go.Proofs.YtdgdgfckcnjpfaaGreat.Abs
