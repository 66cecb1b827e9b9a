/- Walks of functions, printed by a program. Conditions: none. -/
import Derived.Test.YtelobmiooldoaaaGreatProg
import Derived.Test.YtelobmiooldoaaaGreatGW
namespace Go.Proofs.YtelobmiooldoaaaGreat.Abs
open Go Go.RowKit
set_option linter.unusedVariables false
set_option maxRecDepth 100000
open Z
end Go.Proofs.YtelobmiooldoaaaGreat.Abs
