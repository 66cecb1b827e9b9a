/- The table is made once: what Do does, with the closure. -/
import Derived.Test.YtdgdgfckcnjpfaaGreatCrcA
import Derived.Test.YtdgdgfckcnjpfaaGreatCrcB
namespace Go.Proofs.YtdgdgfckcnjpfaaGreat.Crc
open Go Go.RowKit Go.Proofs.YtdgdgfckcnjpfaaGreat.Abs
set_option maxRecDepth 100000
set_option linter.unusedVariables false
open Z
section
variable {E:Env} {w:World} {tm:List (Nat×PV)} {bx:List (Tg×List PV)} {tmps:Array Value}
end
end Go.Proofs.YtdgdgfckcnjpfaaGreat.Crc
