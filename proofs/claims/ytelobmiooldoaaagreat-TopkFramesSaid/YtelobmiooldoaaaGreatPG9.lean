/- Plain facts on frames: what was read is written as it stood. Conditions: none. -/
import Derived.Test.YtelobmiooldoaaaGreatPG7
namespace Go.Proofs.YtelobmiooldoaaaGreat.Abs
open Go Go.RowKit Go.IntWalk Crc
set_option linter.unusedVariables false
set_option linter.unnecessarySimpa false
set_option linter.unusedSimpArgs false
set_option linter.unusedSectionVars false
set_option maxRecDepth 100000

section
variable {b : List Int} (hb : b.length ≤ 1000000) (hu : U8s b)
include hb hu

end

end Go.Proofs.YtelobmiooldoaaaGreat.Abs
