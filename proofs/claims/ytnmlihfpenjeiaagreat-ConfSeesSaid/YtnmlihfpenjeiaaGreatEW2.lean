/- Walks of functions, printed by a program. Conditions: none. -/
import Derived.Test.YtnmlihfpenjeiaaGreatProg
import Derived.Test.YtnmlihfpenjeiaaGreatEW
namespace Go.Proofs.YtnmlihfpenjeiaaGreat.Abs
open Go Go.RowKit
set_option linter.unusedVariables false
set_option maxRecDepth 100000
open Z
end Go.Proofs.YtnmlihfpenjeiaaGreat.Abs
