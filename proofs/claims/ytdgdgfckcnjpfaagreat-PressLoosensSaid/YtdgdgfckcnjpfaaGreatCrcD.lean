/- The table, and sums: walks. -/
import Derived.Test.YtdgdgfckcnjpfaaGreatCrcC
import Derived.Test.YtdgdgfckcnjpfaaGreatPB
namespace Go.Proofs.YtdgdgfckcnjpfaaGreat.Abs
open Go Go.RowKit Crc
set_option maxRecDepth 100000
set_option linter.unusedVariables false
open Z
end Go.Proofs.YtdgdgfckcnjpfaaGreat.Abs
