/- The table of sums is made: the closure's walk. -/
import Derived.Test.YtdgdgfckcnjpfaaGreatProg
import Derived.Test.YtdgdgfckcnjpfaaGreatAbs6
namespace Go.Proofs.YtdgdgfckcnjpfaaGreat.Crc
open Go Go.RowKit Go.Proofs.YtdgdgfckcnjpfaaGreat.Abs
set_option maxRecDepth 100000
open Z
end Go.Proofs.YtdgdgfckcnjpfaaGreat.Crc
