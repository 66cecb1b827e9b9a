/- The library's lock, once: world level. -/
import Derived.Test.YtdgdgfckcnjpfaaGreatChecked
import Derived.Tactics
import Derived.Tactics2
import Derived.Defers
import Derived.Laws.Pointers
import Derived.Laws.LoneSync
import Derived.RegionTactic
import Derived.RegionCalls
import Derived.ChangeAlike
namespace Go.Proofs.YtdgdgfckcnjpfaaGreat.Crc
open Go
set_option maxRecDepth 100000
set_option maxHeartbeats 1600000
end Go.Proofs.YtdgdgfckcnjpfaaGreat.Crc
