/- Plain facts: the document's codes. Conditions: none. -/
import Derived.Test.YtdgdgfckcnjpfaaGreatPG6
namespace Go.Proofs.YtdgdgfckcnjpfaaGreat.Abs
open Go Go.RowKit Go.IntWalk Crc
set_option linter.unusedVariables false
set_option linter.unusedSimpArgs false
set_option linter.unusedSectionVars false
set_option linter.unnecessarySimpa false
set_option maxRecDepth 100000
end Go.Proofs.YtdgdgfckcnjpfaaGreat.Abs
