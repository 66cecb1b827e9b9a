/- Plain facts: steps. Conditions: none. -/
import Derived.Test.YtnmlihfpenjeiaaGreatPY2
namespace Go.Proofs.YtnmlihfpenjeiaaGreat.Abs
open Go Go.RowKit Go.IntWalk
set_option linter.unusedVariables false
set_option linter.unusedSimpArgs false
set_option linter.unnecessarySimpa false
set_option maxRecDepth 100000
theorem zYc (c:zAl) (hl:c.F_L.length≤4398046511000) (s:Int):zKA c s=some (decide ((0≤s∧s≤1073741824)∧zGY c)):=by
 rw [zKA,zKz,zAb]
 by_cases h:0≤s∧s≤1073741824
 ·rw [if_pos (by simpa using h),zL2 c hl,zAb,zAb]
  by_cases g:zGY c<;>simp [h,g]
 ·rw [if_neg (by simpa using h),zAb];simp [h]
end Go.Proofs.YtnmlihfpenjeiaaGreat.Abs
