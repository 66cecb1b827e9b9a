/- Plain facts: vectors loosened as the document says (chapter 12). Conditions: none. -/
import Derived.Test.YtdgdgfckcnjpfaaGreatPX2
namespace Go.Proofs.YtdgdgfckcnjpfaaGreat.Abs
open Go Go.RowKit Go.IntWalk
set_option linter.unusedVariables false
set_option linter.unusedSimpArgs false
set_option linter.unnecessarySimpa false
set_option maxRecDepth 100000
theorem zZl {s:zAc} (hm:mayP s=true):((zLv s).length:Int)=s.F_Dim∧0<s.F_Dim∧s.F_Dim≤4096:=by
 unfold zLv
 rcases zEL.1 hm with ⟨d0,d1,h,z,y⟩ | ⟨d0,d1,h,c,z,y⟩ | ⟨d0,d1,h,w0,w1,l,x,c,n,z⟩ | ⟨d0,d1,h,c,n,z⟩
 ·rw [if_pos h];exact ⟨z,d0,d1⟩
 ·rw [if_neg (by omega),if_pos h,zSN];simp;omega
 ·rw [if_neg (by omega),if_neg (by omega),if_pos h,List.length_zipWith];omega
 ·rw [if_neg (by omega),if_neg (by omega),if_neg (by omega),List.length_map];omega
theorem zYY (s:zAc):(zCH s).1.length≤4096:=by
 rw [zCH]
 by_cases hm:mayP s=true
 ·rw [if_pos hm];have:=zZl hm;simp only;omega
 ·rw [if_neg hm];simp
theorem zUJ (h:zAi) (v:List Int) (s:zAc) (r1:Bool) (r5 r6:(List Int)×Int) (N:Nat) (hN:r5.1.length=N) (hl:N≤1000000):∀(j k:Nat) (x:List Int),k+j=N→x.length=N→zAW h v s r1 r5 r6 (k:Int) x=some ()
 | 0,k,x,e,hx=>by rw [zAW,if_neg (by omega)]
 | j+1,k,x,e,hx=>by
  rw [zAW,if_pos (by omega),if_pos (by omega),if_pos (by omega),zAb,zAx (by omega)]
  exact zUJ h v s r1 r5 r6 N hN hl j (k+1) _ (by omega) (by simpa using hx)
theorem zAbC (v:List Int) (s:zAc):(zJX v s).1.length≤v.length:=by
 rw [zJX]
 by_cases h:(zCH s).2≠0
 ·rw [if_pos h];simp
 ·rw [if_neg h];exact zAcL
theorem zSh (h:zAi) (v:List Int) (s:zAc) (hi:I64s v) (hs:Fits s):zD8 h v s=some true:=by
 obtain ⟨b,hb1,hb2⟩:=zAcQ [] [v] (by simp)
 rw [zD8,zAbB,zAb,if_neg (by simp),hb1,zAb]
 cases b with
 | false=>rw [if_pos rfl,zAb,if_pos rfl]
 | true=>
 obtain ⟨_,_,f3⟩:=hb2 rfl
 have fv:=f3 v (by simp)
 rw [if_neg (by simp),zAes,zAb,zAb]
 split
 ·rfl
 obtain ⟨r,b1,b2⟩:=zAa7 hs
 have hll:=zYY s
 have hlf:=zAbC v s
 have hpl:=zUJ h v s true (zCH s) (zCH s) _ rfl (by omega) (zCH s).1.length 0 (zCH s).1 (by omega) rfl
 rw [show ((0:Nat):Int)=0 from rfl] at hpl
 rw [zWc hs,zAb,zRg hs,zAb,zZy hi hs,zAb,zAac hi hs,zAb,b1,zAb,b2,zAb,zFn _ _ (by omega),zAb,zFn _ _ (by omega)]
 simp only [decide_true,Bool.true_eq_false,if_false,bne_self_eq_false,zAb,Bool.false_eq_true,Bool.not_true]
 rw [hpl,zAb,if_pos trivial,zFn _ _ (by omega),zAb,if_pos (by simp),if_pos trivial,zAcD hi hs,zAb,zYZ hi hs (by omega),zAb]
 simp
end Go.Proofs.YtdgdgfckcnjpfaaGreat.Abs
