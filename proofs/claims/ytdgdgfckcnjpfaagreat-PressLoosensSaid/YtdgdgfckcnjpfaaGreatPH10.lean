/- Plain facts: what the document presses. Conditions: none. -/
import Derived.Test.YtdgdgfckcnjpfaaGreatPH9
namespace Go.Proofs.YtdgdgfckcnjpfaaGreat.Abs
open Go Go.RowKit Go.IntWalk
set_option linter.unusedVariables false
set_option linter.unusedSimpArgs false
set_option linter.unusedSectionVars false
set_option linter.unnecessarySimpa false
set_option maxRecDepth 100000
theorem zSv (v l:List Int) (e:Int) (hl:l.length≤50000) (hin:∀n∈l,0≤n∧n<(v.length:Int)):∀(t:List Int) (k:Nat) (acc:List Int),l.drop k=t→acc.length≤k→zBE v (l,e) (k:Int) acc=some (acc++t.map (at' v))
 | [],k,acc,h,ha=>by
  rw [zBE]
  simp only
  rw [if_neg (zAp h)];simp
 | x::t,k,acc,h,ha=>by
  obtain ⟨h1,h2,h3⟩:=zAh h
  have hx:x∈l:=by
   have:x∈l.drop k:=by rw [h];simp
   exact List.mem_of_mem_drop this
  have hb:=hin x hx
  rw [zBE]
  simp only
  rw [if_pos h1,if_pos ⟨by omega,h1⟩,h2,if_pos hb,if_pos (zEy (by simp;omega)),zAb,zAx (by omega),zSv v l e hl hin t (k+1) _ h3 (by simp;omega)]
  simp
theorem zYX (k0:Int) (v:List Int) (hi:I64s v) (hv:v.length≤600∨4096<v.length∧v.length≤5000):∃r,zDF k0 v=some r∧zDE k0 v=some r:=by
 by_cases h0:(v.length:Int)=0
 ·exact ⟨_,by rw [zDF,if_pos h0],by rw [zDE,if_pos h0]⟩
 obtain ⟨r,h1,h2,h3,h4,h5⟩:=zAaZ k0 v hi (by omega)
 rw [zDF,if_neg h0,h1,zAb,zDE,if_neg h0,h2,zAb]
 obtain ⟨l,e⟩:=r
 simp only at*
 by_cases he:e≠0
 ·exact ⟨_,by rw [if_pos he],by rw [if_pos he]⟩
 ·rw [if_neg he,if_neg he]
  have hG:=zWt l v (by omega) h5 h4
  have hP:=zSv v l e (by omega) h4 l 0 [] rfl (by simp)
  rw [show ((0:Nat):Int)=0 from rfl] at hP
  rw [hG,zAb,hP,zAb]
  simp only
  rw [if_neg (by simp)]
  exact ⟨_,rfl,rfl⟩
end Go.Proofs.YtdgdgfckcnjpfaaGreat.Abs
