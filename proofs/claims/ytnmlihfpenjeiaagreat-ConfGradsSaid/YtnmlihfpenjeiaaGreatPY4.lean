/- Plain facts: which runs may be, by the document. Conditions: none. -/
import Derived.Test.YtnmlihfpenjeiaaGreatPY3
import Derived.Test.YtnmlihfpenjeiaaGreatPYd
namespace Go.Proofs.YtnmlihfpenjeiaaGreat.Abs
open Go Go.RowKit Go.IntWalk
set_option linter.unusedVariables false
set_option linter.unusedSimpArgs false
set_option linter.unnecessarySimpa false
set_option maxRecDepth 100000
set_option linter.unusedSimpArgs false
set_option linter.unnecessarySimpa false
set_option maxRecDepth 100000
theorem zLX (m:zAf):zD9 m=some (if zDr m then 0 else 1):=by
 obtain ⟨K,I,O,H,F⟩:=m
 have hb:∀b:Bool,(if b=false then some 1 else some 0:Option Int)=some (if b then 0 else 1):=fun b=>by cases b<;>rfl
 rw [zD9]
 simp only [andB,zAb,hb]
 unfold zDr
 by_cases h1:1≤I∧I≤16
 rotate_left
 ·by_cases k0:K=0<;>by_cases k1:K=1<;>by_cases k2:K=2<;>simp [k0,k1,k2]<;>omega
 by_cases h2:0≤F∧F≤30
 rotate_left
 ·by_cases k0:K=0<;>by_cases k1:K=1<;>by_cases k2:K=2<;>simp [k0,k1,k2]<;>omega
 by_cases k0:K=0
 ·subst k0
  by_cases o:O=0<;>by_cases i:H=0<;>simp [h1,h2,o,i]
 by_cases k1:K=1
 ·subst k1
  by_cases o:2≤O∧O≤8<;>by_cases i:H=0<;>simp [h1,h2,o,i]<;>omega
 by_cases k2:K=2
 ·subst k2
  by_cases o:O=0<;>by_cases i:1≤H∧H≤8<;>simp [h1,h2,o,i]<;>omega
 ·simp [k0,k1,k2]
theorem zP6 (a:Int):zEG a=some (if 1≤a∧a≤16 then (a+1,0) else (0,1)):=by
 rw [zEG,orB]
 by_cases h:1≤a∧a≤16
 ·rw [if_pos h,if_neg (by simp;omega),i64_in _ (by omega)]
 ·rw [if_neg h,if_pos (by simp;omega)]
theorem zPz (a b:Int):zEz a b=some (if (1≤a∧a≤16)∧(2≤b∧b≤8) then ((a+1)*b,0) else (0,1)):=by
 rw [zEz]
 simp only [orB]
 by_cases h:(1≤a∧a≤16)∧(2≤b∧b≤8)
 ·have:=zMX (a:=b) (b:=a+1) (A:=8) (B:=17) (by omega) (by omega)
  rw [if_pos h,if_neg (by simp;omega),i64_in (a+1) (by omega),i64_in _ (by omega),Int.mul_comm]
 ·rw [if_neg h,if_pos (by simp;omega)]
theorem zJD (a b:Int):zDL a b=some (if (1≤a∧a≤16)∧(1≤b∧b≤8) then (b*(a+1)+b+1,0) else (0,1)):=by
 rw [zDL]
 simp only [orB]
 by_cases h:(1≤a∧a≤16)∧(1≤b∧b≤8)
 ·have:=zMX (a:=b) (b:=a+1) (A:=8) (B:=17) (by omega) (by omega)
  rw [if_pos h,if_neg (by simp;omega),i64_in (a+1) (by omega),i64_in (b*(a+1)) (by omega),i64_in (b*(a+1)+b) (by omega),i64_in _ (by omega)]
 ·rw [if_neg h,if_pos (by simp;omega)]
theorem zAau (m:zAf):zFW m=some (if zDr m then (dimN m,0) else (0,1)):=by
 rw [zFW,zLX,zAb]
 by_cases h:zDr m
 rotate_left
 ·rw [if_neg h,if_neg h,if_pos (by simp)]
 rw [if_pos h,if_pos h,if_neg (by simp)]
 obtain ⟨h1,h2,h3⟩:=h
 rw [dimN]
 rcases h3 with h3 | h3 | h3
 ·rw [if_neg (by omega),if_neg (by omega),if_neg (by omega),if_neg (by omega),zP6,if_pos h1,zAb]
 ·rw [if_pos h3.1,if_pos h3.1,zPz,if_pos ⟨h1,h3.2.1⟩,zAb]
 ·rw [if_neg (by omega),if_pos h3.1,if_neg (by omega),if_pos h3.1,zJD,if_pos ⟨h1,h3.2.2⟩,zAb]
theorem zY2 {m:zAf} (h:zDr m) {w:List Int} (hw:(w.length:Int)=dimN m) (s:zAa):∃e,zCG m w [s]=some e∧(e=0↔goes m s=true):=by
 have h':=h
 obtain ⟨h1,h2,h3⟩:=h
 have hat:at' [s] 0=s:=rfl
 have hwr:¬(IntKind.i64.wrap ((0:Int)+1)<(([s]:List zAa).length:Int)):=by rw [IntKind.wrap_i64];simp
 rw [zCG,zLX,zAb,if_pos h',if_neg (by simp)]
 unfold goes
 rcases h3 with h3 | h3 | h3
 ·rw [if_neg (by omega),if_neg (by omega),zB1,zP6,zAb,if_pos h1]
  simp only
  rw [if_neg (by simp),if_neg (by rw [hw,dimN,if_neg (by omega),if_neg (by omega)];simp),zBl,if_pos (by simp),if_pos (by simp),hat]
  by_cases g:(s.F_X.length:Int)=m.F_In
  ·rw [if_neg (by simpa using g),zBl,if_neg hwr,zAb]
   simp only
   rw [orB,if_neg (by simp)]
   exact ⟨_,rfl,by simp [g,h3.1]⟩
  ·rw [if_pos g,zAb];exact ⟨_,rfl,by simp [g]⟩
 ·rw [if_pos h3.1,zDo,zPz,zAb,if_pos (show (1≤m.F_In∧m.F_In≤16)∧(2≤m.F_Out∧m.F_Out≤8) from ⟨h1,h3.2.1⟩)]
  simp only
  rw [if_neg (by simp),if_neg (by rw [hw,dimN,if_pos h3.1];simp),zBo,if_pos (by simp),if_pos (by simp),hat]
  by_cases g:(s.F_X.length:Int)=m.F_In
  ·rw [if_neg (by simpa using g),zBo,if_neg hwr,zAb]
   simp only
   rw [orB,if_neg (by simp),zBm,if_pos (by simp),if_pos (by simp),hat,orB]
   by_cases y:0≤s.F_Y∧s.F_Y<m.F_Out
   ·rw [if_neg (by simp;omega),zBm,if_neg hwr,zAb];exact ⟨_,rfl,by simp [g,y]⟩
   ·rw [if_pos (by simp;omega),zAb];exact ⟨_,rfl,by simp [g,y,h3.1]⟩
  ·rw [if_pos g,zAb];exact ⟨_,rfl,by simp [g]⟩
 ·rw [if_neg (by omega),if_pos h3.1,zDl,zJD,zAb,if_pos (show (1≤m.F_In∧m.F_In≤16)∧(1≤m.F_Hid∧m.F_Hid≤8) from ⟨h1,h3.2.2⟩)]
  simp only
  rw [if_neg (by simp),if_neg (by rw [hw,dimN,if_neg (by omega),if_pos h3.1];simp),zBq,if_pos (by simp),if_pos (by simp),hat]
  by_cases g:(s.F_X.length:Int)=m.F_In
  ·rw [if_neg (by simpa using g),zBq,if_neg hwr,zAb]
   simp only
   rw [orB,if_neg (by simp)]
   exact ⟨_,rfl,by simp [g];omega⟩
  ·rw [if_pos g,zAb];exact ⟨_,rfl,by simp [g]⟩
theorem zRf (c:zAq) (hm:zDr c.F_M) (hl:c.F_L.length≤4398046511000):∀(t:List zAa) (k:Nat),c.F_L.drop k=t→zBT c (dimN c.F_M,0) (k:Int)=some (if t.all (goes c.F_M)=true then .inr () else .inl 1)
 | [],k,h=>by rw [zBT,if_neg (zAT h)];rfl
 | x::t,k,h=>by
  obtain ⟨g1,g2,g3⟩:=zAw h
  have hd:=zQy hm
  obtain ⟨e,f1,f2⟩:=zY2 hm (w:=List.replicate (dimN c.F_M).toNat 0) (by simp;omega) x
  rw [zBT,if_pos g1,if_pos ⟨by omega,g1⟩,g2]
  simp only
  rw [if_pos ⟨by omega,by omega,by omega,by omega⟩,f1,zAb,zAb]
  by_cases he:e=0
  ·rw [if_neg (by simp [he]),zAO (by omega),zRf c hm hl t (k+1) g3,List.all_cons,f2.1 he,Bool.true_and]
  ·have:goes c.F_M x=false:=by cases hg:goes c.F_M x with
    | true=>exact absurd (f2.2 hg) he
    | false=>rfl
   rw [if_pos (by simpa using he),List.all_cons,this,Bool.false_and,if_neg (by simp)]
theorem zXr (c:zAq) (hl:c.F_L.length≤4398046511000):zE4 c=some (if zHQ c then 0 else 1):=by
 rw [zE4,zAau,zAb]
 by_cases hm:zDr c.F_M
 rotate_left
 ·rw [if_neg hm]
  simp only [orB]
  rw [if_pos (by simp),zAb,if_pos (by simp),if_neg (fun h=>hm h.1)]
 rw [if_pos hm]
 simp only [orB,zXp,zAb]
 by_cases hA:(1≤c.F_N∧c.F_N≤64)∧zFX c.F_H (dimN c.F_M)∧(0≤c.F_Warm∧c.F_Warm≤1048576)
 rotate_left
 ·rw [if_pos (by
   by_cases hh:zFX c.F_H (dimN c.F_M)
   ·rw [if_pos hh];simp [hh] at hA;simp;omega
   ·rw [if_neg hh];simp),if_neg (fun h=>hA ⟨h.2.2.1.1,h.2.1,h.2.2.1.2.1⟩)]
 rw [if_neg (by rw [if_pos hA.2.1];simp;omega),if_pos hm.2.1.1]
 by_cases hB:(0≤c.F_Rate∧c.F_Rate≤oneF c.F_M)∧(0≤c.F_Mom∧c.F_Mom≤oneF c.F_M)∧0≤c.F_Clip
 rotate_left
 ·rw [if_pos (by simp only [Bool.or_eq_true,decide_eq_true_eq];unfold oneF at hB;omega),if_neg (fun h=>hB h.2.2.1.2.2)]
 rw [if_neg (by simp only [Bool.or_eq_true,decide_eq_true_eq];unfold oneF at hB;omega)]
 by_cases hC:c.F_L.length≤256∧1≤c.F_Batch∧c.F_Batch≤64∧c.F_Batch≤(c.F_L.length:Int)
 rotate_left
 ·rw [if_pos (by simp only [Bool.or_eq_true,decide_eq_true_eq];omega),if_neg (fun h=>hC h.2.2.2.1)]
 have hl0:=zRf c hm hl c.F_L 0 rfl
 rw [show ((0:Nat):Int)=0 from rfl] at hl0
 rw [if_neg (by simp only [Bool.or_eq_true,decide_eq_true_eq];omega),hl0,zAb]
 by_cases hg:∀s∈c.F_L,goes c.F_M s=true
 ·rw [if_pos (List.all_eq_true.2 hg),if_pos ⟨hm,hA.2.1,⟨hA.1,hA.2.2,hB⟩,hC,hg⟩]
 ·rw [if_neg (fun h=>hg (List.all_eq_true.1 h)),if_neg (fun h=>hg h.2.2.2.2)]
end Go.Proofs.YtnmlihfpenjeiaaGreat.Abs
