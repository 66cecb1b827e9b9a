/- Plain facts: lists put together. Conditions: none. -/
import Derived.Lib.SlicesCompact
import Derived.Test.YtdgdgfckcnjpfaaGreatPL5
import Derived.Test.YtdgdgfckcnjpfaaGreatSrtS
namespace Go.Proofs.YtdgdgfckcnjpfaaGreat.Abs
open Go Go.RowKit Go.IntWalk
set_option linter.unusedVariables false
set_option linter.unusedSimpArgs false
set_option linter.unusedSectionVars false
set_option linter.unnecessarySimpa false
set_option maxRecDepth 100000
set_option linter.unusedSimpArgs false
set_option maxRecDepth 100000
set_option linter.unusedSimpArgs false
set_option maxRecDepth 100000
section
variable (L:List (List Int)) (x0 x1:Int) (n:Int) (hn:at' (at' L x0) x1=n) (out:List Int) (ho:out.length≤1000000)
include hn ho
end
end Go.Proofs.YtdgdgfckcnjpfaaGreat.Abs
