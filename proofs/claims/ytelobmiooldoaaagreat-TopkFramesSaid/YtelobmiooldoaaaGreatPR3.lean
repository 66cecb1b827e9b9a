/- Plain facts: what the document writes. Conditions: none. -/
import Derived.Test.YtelobmiooldoaaaGreatPR2
namespace Go.Proofs.YtelobmiooldoaaaGreat.Abs
open Go Go.RowKit Go.IntWalk Crc
set_option linter.unusedVariables false
set_option linter.unnecessarySimpa false
set_option linter.unusedSimpArgs false
set_option linter.unusedSectionVars false
set_option maxRecDepth 100000

theorem FitS.lens {s : T_api_Sent} (h : FitS s) : Lens s := ⟨h.L, h.V, h.Lev, h.Neg⟩
structure NotBig (s : T_api_Sent) : Prop where
  l : s.F_L.length ≤ 500
  v : s.F_V.length ≤ 500
end Go.Proofs.YtelobmiooldoaaaGreat.Abs
