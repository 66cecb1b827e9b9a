/- Plain facts: vectors loosened as the document says (chapter 12). Conditions: none. -/
import Derived.Test.YtdgdgfckcnjpfaaGreatPX2
namespace Go.Proofs.YtdgdgfckcnjpfaaGreat.Abs
open Go Go.RowKit Go.IntWalk
set_option linter.unusedVariables false
set_option linter.unusedSimpArgs false
set_option linter.unnecessarySimpa false
set_option maxRecDepth 100000
theorem zXA {s:zAc} (hm:mayP s=true):((zEx s).length:Int)=s.F_Dim∧0<s.F_Dim∧s.F_Dim≤4096:=by
 unfold zEx
 rcases zEz.1 hm with ⟨d0,d1,h,z,y⟩ | ⟨d0,d1,h,c,z,y⟩ | ⟨d0,d1,h,w0,w1,l,x,c,n,z⟩ | ⟨d0,d1,h,c,n,z⟩
 ·rw [if_pos h];exact ⟨z,d0,d1⟩
 ·rw [if_neg (by omega),if_pos h,zQG];simp;omega
 ·rw [if_neg (by omega),if_neg (by omega),if_pos h,List.length_zipWith];omega
 ·rw [if_neg (by omega),if_neg (by omega),if_neg (by omega),List.length_map];omega
end Go.Proofs.YtdgdgfckcnjpfaaGreat.Abs
