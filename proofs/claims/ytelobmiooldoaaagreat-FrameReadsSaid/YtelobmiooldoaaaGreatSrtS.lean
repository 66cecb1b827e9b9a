/- slices.Sort turns a row in its place. Conditions: none. -/
import Derived.Test.YtelobmiooldoaaaGreatAbsG8
import Derived.Test.YtelobmiooldoaaaGreatShelf
namespace Go.Proofs.YtelobmiooldoaaaGreat.Abs
open Go Go.RowKit Z
set_option linter.unusedVariables false
set_option linter.unusedSimpArgs false
set_option maxRecDepth 100000

end Go.Proofs.YtelobmiooldoaaaGreat.Abs
