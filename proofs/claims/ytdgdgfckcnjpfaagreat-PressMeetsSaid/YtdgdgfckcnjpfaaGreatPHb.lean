/- Plain facts: what is picked. Conditions: none. -/
import Derived.Test.YtdgdgfckcnjpfaaGreatPH3
namespace Go.Proofs.YtdgdgfckcnjpfaaGreat.Abs
open Go Go.RowKit Go.IntWalk
set_option linter.unusedVariables false
set_option linter.unusedSimpArgs false
set_option linter.unusedSectionVars false
set_option linter.unnecessarySimpa false
set_option maxRecDepth 100000
set_option linter.unusedSimpArgs false
set_option linter.unusedSectionVars false
set_option maxRecDepth 100000
set_option linter.unusedSimpArgs false
set_option linter.unusedSectionVars false
set_option maxRecDepth 100000
def I64s (v:List Int):Prop:=∀n∈v,-9223372036854775808≤n∧n≤9223372036854775807
set_option linter.unusedSimpArgs false
set_option linter.unusedSectionVars false
set_option maxRecDepth 100000
theorem zAc7 {v:List Int} (hi:I64s v) {n:Int}: -9223372036854775808≤at' v n∧at' v n≤9223372036854775807:=by
 unfold at'
 rcases Nat.lt_or_ge n.toNat v.length with h | h
 ·rw [List.getD_eq_getElem?_getD,List.getElem?_eq_getElem h];exact hi _ (by simp)
 ·rw [List.getD_eq_getElem?_getD,List.getElem?_eq_none h];decide
end Go.Proofs.YtdgdgfckcnjpfaaGreat.Abs
