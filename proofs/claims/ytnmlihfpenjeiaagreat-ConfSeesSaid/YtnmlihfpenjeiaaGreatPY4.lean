/- Plain facts: which runs may be, by the document. Conditions: none. -/
import Derived.Test.YtnmlihfpenjeiaaGreatPY3
import Derived.Test.YtnmlihfpenjeiaaGreatPYd
namespace Go.Proofs.YtnmlihfpenjeiaaGreat.Abs
open Go Go.RowKit Go.IntWalk
set_option linter.unusedVariables false
set_option linter.unusedSimpArgs false
set_option linter.unnecessarySimpa false
set_option maxRecDepth 100000
set_option linter.unusedSimpArgs false
set_option linter.unnecessarySimpa false
set_option maxRecDepth 100000
theorem zKS (m:zAc):zEA m=some (if zCV m then 0 else 1):=by
 obtain ⟨K,I,O,H,F⟩:=m
 have hb:∀b:Bool,(if b=false then some 1 else some 0:Option Int)=some (if b then 0 else 1):=fun b=>by cases b<;>rfl
 rw [zEA]
 simp only [andB,zAb,hb]
 unfold zCV
 by_cases h1:1≤I∧I≤16
 rotate_left
 ·by_cases k0:K=0<;>by_cases k1:K=1<;>by_cases k2:K=2<;>simp [k0,k1,k2]<;>omega
 by_cases h2:0≤F∧F≤30
 rotate_left
 ·by_cases k0:K=0<;>by_cases k1:K=1<;>by_cases k2:K=2<;>simp [k0,k1,k2]<;>omega
 by_cases k0:K=0
 ·subst k0
  by_cases o:O=0<;>by_cases i:H=0<;>simp [h1,h2,o,i]
 by_cases k1:K=1
 ·subst k1
  by_cases o:2≤O∧O≤8<;>by_cases i:H=0<;>simp [h1,h2,o,i]<;>omega
 by_cases k2:K=2
 ·subst k2
  by_cases o:O=0<;>by_cases i:1≤H∧H≤8<;>simp [h1,h2,o,i]<;>omega
 ·simp [k0,k1,k2]
theorem zM4 (a:Int):zFG a=some (if 1≤a∧a≤16 then (a+1,0) else (0,1)):=by
 rw [zFG,orB]
 by_cases h:1≤a∧a≤16
 ·rw [if_pos h,if_neg (by simp;omega),i64_in _ (by omega)]
 ·rw [if_neg h,if_pos (by simp;omega)]
theorem zMA (a b:Int):zFz a b=some (if (1≤a∧a≤16)∧(2≤b∧b≤8) then ((a+1)*b,0) else (0,1)):=by
 rw [zFz]
 simp only [orB]
 by_cases h:(1≤a∧a≤16)∧(2≤b∧b≤8)
 ·have:=zLl (a:=b) (b:=a+1) (A:=8) (B:=17) (by omega) (by omega)
  rw [if_pos h,if_neg (by simp;omega),i64_in (a+1) (by omega),i64_in _ (by omega),Int.mul_comm]
 ·rw [if_neg h,if_pos (by simp;omega)]
theorem zIy (a b:Int):zEq a b=some (if (1≤a∧a≤16)∧(1≤b∧b≤8) then (b*(a+1)+b+1,0) else (0,1)):=by
 rw [zEq]
 simp only [orB]
 by_cases h:(1≤a∧a≤16)∧(1≤b∧b≤8)
 ·have:=zLl (a:=b) (b:=a+1) (A:=8) (B:=17) (by omega) (by omega)
  rw [if_pos h,if_neg (by simp;omega),i64_in (a+1) (by omega),i64_in (b*(a+1)) (by omega),i64_in (b*(a+1)+b) (by omega),i64_in _ (by omega)]
 ·rw [if_neg h,if_pos (by simp;omega)]
theorem zWC (m:zAc):zHe m=some (if zCV m then (dimN m,0) else (0,1)):=by
 rw [zHe,zKS,zAb]
 by_cases h:zCV m
 rotate_left
 ·rw [if_neg h,if_neg h,if_pos (by simp)]
 rw [if_pos h,if_pos h,if_neg (by simp)]
 obtain ⟨h1,h2,h3⟩:=h
 rw [dimN]
 rcases h3 with h3 | h3 | h3
 ·rw [if_neg (by omega),if_neg (by omega),if_neg (by omega),if_neg (by omega),zM4,if_pos h1,zAb]
 ·rw [if_pos h3.1,if_pos h3.1,zMA,if_pos ⟨h1,h3.2.1⟩,zAb]
 ·rw [if_neg (by omega),if_pos h3.1,if_neg (by omega),if_pos h3.1,zIy,if_pos ⟨h1,h3.2.2⟩,zAb]
theorem zVM {m:zAc} (h:zCV m) {w:List Int} (hw:(w.length:Int)=dimN m) (s:zAa):∃e,zDz m w [s]=some e∧(e=0↔goes m s=true):=by
 have h':=h
 obtain ⟨h1,h2,h3⟩:=h
 have hat:at' [s] 0=s:=rfl
 have hwr:¬(IntKind.i64.wrap ((0:Int)+1)<(([s]:List zAa).length:Int)):=by rw [IntKind.wrap_i64];simp
 rw [zDz,zKS,zAb,if_pos h',if_neg (by simp)]
 unfold goes
 rcases h3 with h3 | h3 | h3
 ·rw [if_neg (by omega),if_neg (by omega),zCd,zM4,zAb,if_pos h1]
  simp only
  rw [if_neg (by simp),if_neg (by rw [hw,dimN,if_neg (by omega),if_neg (by omega)];simp),zBH,if_pos (by simp),if_pos (by simp),hat]
  by_cases g:(s.F_X.length:Int)=m.F_In
  ·rw [if_neg (by simpa using g),zBH,if_neg hwr,zAb]
   simp only
   rw [orB,if_neg (by simp)]
   exact ⟨_,rfl,by simp [g,h3.1]⟩
  ·rw [if_pos g,zAb];exact ⟨_,rfl,by simp [g]⟩
 ·rw [if_pos h3.1,zD1,zMA,zAb,if_pos (show (1≤m.F_In∧m.F_In≤16)∧(2≤m.F_Out∧m.F_Out≤8) from ⟨h1,h3.2.1⟩)]
  simp only
  rw [if_neg (by simp),if_neg (by rw [hw,dimN,if_pos h3.1];simp),zBK,if_pos (by simp),if_pos (by simp),hat]
  by_cases g:(s.F_X.length:Int)=m.F_In
  ·rw [if_neg (by simpa using g),zBK,if_neg hwr,zAb]
   simp only
   rw [orB,if_neg (by simp),zBE,if_pos (by simp),if_pos (by simp),hat,orB]
   by_cases y:0≤s.F_Y∧s.F_Y<m.F_Out
   ·rw [if_neg (by simp;omega),zBE,if_neg hwr,zAb];exact ⟨_,rfl,by simp [g,y]⟩
   ·rw [if_pos (by simp;omega),zAb];exact ⟨_,rfl,by simp [g,y,h3.1]⟩
  ·rw [if_pos g,zAb];exact ⟨_,rfl,by simp [g]⟩
 ·rw [if_neg (by omega),if_pos h3.1,zDW,zIy,zAb,if_pos (show (1≤m.F_In∧m.F_In≤16)∧(1≤m.F_Hid∧m.F_Hid≤8) from ⟨h1,h3.2.2⟩)]
  simp only
  rw [if_neg (by simp),if_neg (by rw [hw,dimN,if_neg (by omega),if_pos h3.1];simp),zBF,if_pos (by simp),if_pos (by simp),hat]
  by_cases g:(s.F_X.length:Int)=m.F_In
  ·rw [if_neg (by simpa using g),zBF,if_neg hwr,zAb]
   simp only
   rw [orB,if_neg (by simp)]
   exact ⟨_,rfl,by simp [g];omega⟩
  ·rw [if_pos g,zAb];exact ⟨_,rfl,by simp [g]⟩
theorem zNM (c:zAl) (hm:zCV c.F_M) (hl:c.F_L.length≤4398046511000):∀(t:List zAa) (k:Nat),c.F_L.drop k=t→zC4 c (dimN c.F_M,0) (k:Int)=some (if t.all (goes c.F_M)=true then .inr () else .inl 1)
 | [],k,h=>by rw [zC4,if_neg (zAP h)];rfl
 | x::t,k,h=>by
  obtain ⟨g1,g2,g3⟩:=zAw h
  have hd:=zNc hm
  obtain ⟨e,f1,f2⟩:=zVM hm (w:=List.replicate (dimN c.F_M).toNat 0) (by simp;omega) x
  rw [zC4,if_pos g1,if_pos ⟨by omega,g1⟩,g2]
  simp only
  rw [if_pos ⟨by omega,by omega,by omega,by omega⟩,f1,zAb,zAb]
  by_cases he:e=0
  ·rw [if_neg (by simp [he]),zAJ (by omega),zNM c hm hl t (k+1) g3,List.all_cons,f2.1 he,Bool.true_and]
  ·have:goes c.F_M x=false:=by cases hg:goes c.F_M x with
    | true=>exact absurd (f2.2 hg) he
    | false=>rfl
   rw [if_pos (by simpa using he),List.all_cons,this,Bool.false_and,if_neg (by simp)]
theorem zT9 (c:zAl) (hl:c.F_L.length≤4398046511000):zGn c=some (if zGY c then 0 else 1):=by
 rw [zGn,zWC,zAb]
 by_cases hm:zCV c.F_M
 rotate_left
 ·rw [if_neg hm]
  simp only [orB]
  rw [if_pos (by simp),zAb,if_pos (by simp),if_neg (fun h=>hm h.1)]
 rw [if_pos hm]
 simp only [orB,zUe,zAb]
 by_cases hA:(1≤c.F_N∧c.F_N≤64)∧zFq c.F_H (dimN c.F_M)∧(0≤c.F_Warm∧c.F_Warm≤1048576)
 rotate_left
 ·rw [if_pos (by
   by_cases hh:zFq c.F_H (dimN c.F_M)
   ·rw [if_pos hh];simp [hh] at hA;simp;omega
   ·rw [if_neg hh];simp),if_neg (fun h=>hA ⟨h.2.2.1.1,h.2.1,h.2.2.1.2.1⟩)]
 rw [if_neg (by rw [if_pos hA.2.1];simp;omega),if_pos hm.2.1.1]
 by_cases hB:(0≤c.F_Rate∧c.F_Rate≤oneF c.F_M)∧(0≤c.F_Mom∧c.F_Mom≤oneF c.F_M)∧0≤c.F_Clip
 rotate_left
 ·rw [if_pos (by simp only [Bool.or_eq_true,decide_eq_true_eq];unfold oneF at hB;omega),if_neg (fun h=>hB h.2.2.1.2.2)]
 rw [if_neg (by simp only [Bool.or_eq_true,decide_eq_true_eq];unfold oneF at hB;omega)]
 by_cases hC:c.F_L.length≤256∧1≤c.F_Batch∧c.F_Batch≤64∧c.F_Batch≤(c.F_L.length:Int)
 rotate_left
 ·rw [if_pos (by simp only [Bool.or_eq_true,decide_eq_true_eq];omega),if_neg (fun h=>hC h.2.2.2.1)]
 have hl0:=zNM c hm hl c.F_L 0 rfl
 rw [show ((0:Nat):Int)=0 from rfl] at hl0
 rw [if_neg (by simp only [Bool.or_eq_true,decide_eq_true_eq];omega),hl0,zAb]
 by_cases hg:∀s∈c.F_L,goes c.F_M s=true
 ·rw [if_pos (List.all_eq_true.2 hg),if_pos ⟨hm,hA.2.1,⟨hA.1,hA.2.2,hB⟩,hC,hg⟩]
 ·rw [if_neg (fun h=>hg (List.all_eq_true.1 h)),if_neg (fun h=>hg h.2.2.2.2)]
end Go.Proofs.YtnmlihfpenjeiaaGreat.Abs
