/- Plain facts: may vectors be pressed so. Conditions: none. -/
import Derived.Test.YtnmlihfpenjeiaaGreatPB
import Derived.Test.YtnmlihfpenjeiaaGreatEM
namespace Go.Proofs.YtnmlihfpenjeiaaGreat.Abs
open Go Go.RowKit Go.IntWalk
set_option linter.unusedVariables false
set_option linter.unusedSimpArgs false
set_option linter.unnecessarySimpa false
set_option maxRecDepth 100000
set_option linter.unusedSimpArgs false
set_option linter.unnecessarySimpa false
set_option maxRecDepth 100000
def zFq (h:zBb) (dim:Int):Prop:=(1≤dim∧dim≤4096)∧((h.F_Scheme=0∧h.F_K=0∧h.F_Wide=0)∨(h.F_Scheme=1∧0≤h.F_K∧h.F_K≤dim∧h.F_Wide=0)∨(h.F_Scheme=2∧h.F_K=0∧0<h.F_Wide∧h.F_Wide≤8)∨(h.F_Scheme=3∧h.F_K=0∧h.F_Wide=0))
instance (h:zBb) (dim:Int):Decidable (zFq h dim):=by unfold zFq;infer_instance
theorem zVV (h:zBb) (d:Int):zHa h d=some (if zFq h d then 0 else 1):=by
 obtain ⟨s,k,w⟩:=h
 have hb:∀b:Bool,(if b=true then some 1 else some 0:Option Int)=some (if b then 1 else 0):=fun b=>by cases b<;>rfl
 rw [zHa,zJO,zAb]
 by_cases c0:s=0
 ·subst c0
  simp only [hasK,if_pos,zGi,orB,andB,zAb,hb]
  unfold zFq
  by_cases h1:1≤d∧d≤4096<;>by_cases h2:k=0<;>by_cases h3:w=0<;>simp [h1,h2,h3]<;>omega
 by_cases c1:s=1
 ·subst c1
  simp only [hasK,if_pos,zH5,orB,andB,zAb,hb]
  unfold zFq
  by_cases h1:1≤d∧d≤4096<;>by_cases h2:0≤k∧k≤d<;>by_cases h3:w=0<;>simp [h1,h2,h3]<;>omega
 by_cases c2:s=2
 ·subst c2
  simp only [hasK,if_pos,zH8,orB,andB,zAb,hb]
  unfold zFq
  by_cases h1:1≤d∧d≤4096<;>by_cases h2:k=0<;>by_cases h3:0<w∧w≤8<;>simp [h1,h2,h3]<;>omega
 by_cases c3:s=3
 ·subst c3
  simp only [hasK,if_pos,zGi,orB,andB,zAb,hb]
  unfold zFq
  by_cases h1:1≤d∧d≤4096<;>by_cases h2:k=0<;>by_cases h3:w=0<;>simp [h1,h2,h3]<;>omega
 ·simp only [c0,c1,c2,c3,hasK,if_neg,if_false,not_false_eq_true,if_true,orB,zAb]
  have hnw:¬zFq (⟨s,k,w⟩:zBb) d:=by unfold zFq;simp [c0,c1,c2,c3]
  rw [if_neg hnw]
  simp
end Go.Proofs.YtnmlihfpenjeiaaGreat.Abs
