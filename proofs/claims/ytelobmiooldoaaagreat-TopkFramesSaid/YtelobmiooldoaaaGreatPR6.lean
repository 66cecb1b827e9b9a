/- Plain facts: the document reads as frames what the program does. Conditions: none. -/
import Derived.Test.YtelobmiooldoaaaGreatPR5
namespace Go.Proofs.YtelobmiooldoaaaGreat.Abs
open Go Go.RowKit Go.IntWalk Crc
set_option linter.unusedVariables false
set_option linter.unnecessarySimpa false
set_option linter.unusedSimpArgs false
set_option linter.unusedSectionVars false
set_option maxRecDepth 100000

end Go.Proofs.YtelobmiooldoaaaGreat.Abs
