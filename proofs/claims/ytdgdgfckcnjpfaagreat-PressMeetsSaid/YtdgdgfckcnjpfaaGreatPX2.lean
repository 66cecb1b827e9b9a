/- Plain facts: what the document says of vectors that are pressed so, and of bytes. Conditions: none. -/
import Derived.Test.YtdgdgfckcnjpfaaGreatPX1
import Derived.Test.YtdgdgfckcnjpfaaGreatPW2
namespace Go.Proofs.YtdgdgfckcnjpfaaGreat.Abs
open Go Go.RowKit Go.IntWalk
set_option linter.unusedVariables false
set_option linter.unusedSimpArgs false
set_option linter.unnecessarySimpa false
set_option maxRecDepth 100000
theorem fitV {s:zAc} (h:Fits s):FitV s:=⟨h.S,fun n hn=>h.V n hn,h.Sc⟩
end Go.Proofs.YtdgdgfckcnjpfaaGreat.Abs
