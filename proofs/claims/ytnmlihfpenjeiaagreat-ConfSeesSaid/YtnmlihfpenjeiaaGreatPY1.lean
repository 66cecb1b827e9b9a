/- Plain facts: which models may be, and how many numbers they have. Conditions: none. -/
import Derived.Test.YtnmlihfpenjeiaaGreatPB
import Derived.Test.YtnmlihfpenjeiaaGreatEM
namespace Go.Proofs.YtnmlihfpenjeiaaGreat.Abs
open Go Go.RowKit Go.IntWalk
set_option linter.unusedVariables false
set_option linter.unusedSimpArgs false
set_option linter.unnecessarySimpa false
set_option maxRecDepth 100000
theorem zGt (a:Int):zD2 a=some (if 1≤a∧a≤16 then (a+1,0) else (0,1)):=by
 rw [zD2,orB]
 by_cases h:1≤a∧a≤16
 ·rw [if_pos h,if_neg (by simp;omega),i64_in _ (by omega)]
 ·rw [if_neg h,if_pos (by simp;omega)]
theorem zLl {a b A B:Int} (ha:0≤a∧a≤A) (hb:0≤b∧b≤B):0≤a*b∧a*b≤A*B:=⟨Int.mul_nonneg ha.1 hb.1,Int.mul_le_mul ha.2 hb.2 hb.1 (by omega)⟩
theorem zJk (a b:Int):zHT a b=some (if (1≤a∧a≤16)∧(2≤b∧b≤8) then ((a+1)*b,0) else (0,1)):=by
 rw [zHT,zGt,zAb,zFe,andB]
 by_cases h:1≤a∧a≤16
 ·rw [if_pos h,if_neg (by simp),zAb,zAb]
  by_cases g:2≤b∧b≤8
  ·have:=zLl (a:=a+1) (b:=b) (A:=17) (B:=8) (by omega) (by omega)
   rw [if_neg (by simp;omega),if_pos ⟨h,g⟩];simp only;rw [i64_in _ (by omega)]
  ·rw [if_pos (by simp;omega),if_neg (fun x=>g x.2)]
 ·rw [if_neg h,if_pos (by simp),zAb,if_pos rfl,if_neg (fun x=>h x.1)]
theorem zIO (a b:Int):zHx a b=some (if (1≤a∧a≤16)∧(1≤b∧b≤8) then (b*(a+1)+b+1,0) else (0,1)):=by
 rw [zHx,zGt,zAb,zG6,andB]
 by_cases h:1≤a∧a≤16
 ·rw [if_pos h,if_neg (by simp),zAb,zAb]
  by_cases g:1≤b∧b≤8
  ·have:=zLl (a:=b) (b:=a+1) (A:=8) (B:=17) (by omega) (by omega)
   rw [if_neg (by simp;omega),if_pos ⟨h,g⟩];simp only;rw [i64_in (b*(a+1)) (by omega),i64_in (b*(a+1)+b) (by omega),i64_in _ (by omega)]
  ·rw [if_pos (by simp;omega),if_neg (fun x=>g x.2)]
 ·rw [if_neg h,if_pos (by simp),zAb,if_pos rfl,if_neg (fun x=>h x.1)]
def zCV (m:zAc):Prop:=(1≤m.F_In∧m.F_In≤16)∧(0≤m.F_Frac∧m.F_Frac≤30)∧((m.F_Kind=0∧m.F_Out=0∧m.F_Hid=0)∨(m.F_Kind=1∧(2≤m.F_Out∧m.F_Out≤8)∧m.F_Hid=0)∨(m.F_Kind=2∧m.F_Out=0∧(1≤m.F_Hid∧m.F_Hid≤8)))
instance (m:zAc):Decidable (zCV m):=by unfold zCV;infer_instance
def dimN (m:zAc):Int:=if m.F_Kind=1 then (m.F_In+1)*m.F_Out else if m.F_Kind=2 then m.F_Hid*(m.F_In+1)+m.F_Hid+1 else m.F_In+1
theorem zNc {m:zAc} (h:zCV m):2≤dimN m∧dimN m≤145:=by
 obtain ⟨h1,h2,h3⟩:=h
 unfold dimN
 rcases h3 with h3 | h3 | h3
 ·rw [if_neg (by omega),if_neg (by omega)];omega
 ·have:=zLl (a:=m.F_In+1) (b:=m.F_Out) (A:=17) (B:=8) (by omega) (by omega)
  have g:2*1≤(m.F_In+1)*m.F_Out:=Int.mul_le_mul (by omega) (by omega) (by omega) (by omega)
  rw [if_pos h3.1];omega
 ·have:=zLl (a:=m.F_Hid) (b:=m.F_In+1) (A:=8) (B:=17) (by omega) (by omega)
  rw [if_neg (by omega),if_pos h3.1];omega
theorem zVO {m:zAc} (h:zCV m):zFx m=some (if m.F_Kind=0 then .inr (.inl (m.F_Kind,m.F_In,m.F_Out,m.F_Hid,m.F_Frac,dimN m,0)) else if m.F_Kind=1 then .inr (.inr (.inl (m.F_Kind,m.F_In,m.F_Out,m.F_Hid,m.F_Frac,dimN m,0))) else .inr (.inr (.inr (m.F_Kind,m.F_In,m.F_Out,m.F_Hid,m.F_Frac,dimN m,0)))):=by
 obtain ⟨h1,h2,h3⟩:=h
 rw [zFx]
 rcases h3 with h3 | h3 | h3
 ·rw [if_pos h3.1,orB,if_neg (by simp;omega),if_pos (by omega),if_neg (by omega),if_pos (by omega),if_neg (by omega),zBi,zGt,zAb,zAb,if_pos h1,if_pos h3.1,dimN,if_neg (by omega),if_neg (by omega)]
 ·rw [if_neg (by omega),if_pos h3.1,orB,if_neg (by simp;omega),if_neg (by omega),if_pos (by omega),if_neg (by omega),zBn,zJk,zAb,zAb,if_pos ⟨h1,h3.2.1⟩,if_neg (by omega),if_pos h3.1,dimN,if_pos h3.1]
 ·rw [if_neg (by omega),if_neg (by omega),if_pos h3.1,orB,if_neg (by simp;omega),if_pos (by omega),if_neg (by omega),if_neg (by omega),zBr,zIO,zAb,zAb,if_pos ⟨h1,h3.2.2⟩,if_neg (by omega),if_neg (by omega),dimN,if_neg (by omega),if_pos h3.1]
theorem zUN (m:zAc):zFR m=some (if zCV m then (dimN m,0) else (0,1)):=by
 by_cases h:zCV m
 ·rw [zFR,zVO h,if_pos h,zAb]
  obtain ⟨h1,h2,h3⟩:=h
  rcases h3 with h3 | h3 | h3
  ·rw [if_pos h3.1]
  ·rw [if_neg (by omega),if_pos h3.1]
  ·rw [if_neg (by omega),if_neg (by omega)]
 ·rw [zFR,if_neg h,zFx]
  unfold zCV at h
  by_cases k0:m.F_Kind=0
  ·rw [if_pos k0,orB]
   by_cases f:m.F_Frac<0∨30<m.F_Frac
   ·rw [if_pos (by simp;omega)];rfl
   rw [if_neg (by simp;omega),if_pos (by omega)]
   by_cases o:m.F_Out≠0
   ·rw [if_pos o];rfl
   rw [if_neg o,if_pos (by omega)]
   by_cases i:m.F_Hid≠0
   ·rw [if_pos i];rfl
   rw [if_neg i,zBi,zGt,if_neg (by simp only;omega)];rfl
  rw [if_neg k0]
  by_cases k1:m.F_Kind=1
  ·rw [if_pos k1,orB]
   by_cases f:m.F_Frac<0∨30<m.F_Frac
   ·rw [if_pos (by simp;omega)];rfl
   rw [if_neg (by simp;omega),if_neg (by omega),if_pos (by omega)]
   by_cases i:m.F_Hid≠0
   ·rw [if_pos i];rfl
   rw [if_neg i,zBn,zJk,if_neg (by simp only;omega)];rfl
  rw [if_neg k1]
  by_cases k2:m.F_Kind=2
  ·rw [if_pos k2,orB]
   by_cases f:m.F_Frac<0∨30<m.F_Frac
   ·rw [if_pos (by simp;omega)];rfl
   rw [if_neg (by simp;omega),if_pos (by omega)]
   by_cases o:m.F_Out≠0
   ·rw [if_pos o];rfl
   rw [if_neg o,if_neg (by omega),zBr,zIO,if_neg (by simp only;omega)];rfl
  rw [if_neg k2];rfl
def goes (m:zAc) (s:zAa):Bool:=decide ((s.F_X.length:Int)=m.F_In)&&(decide (m.F_Kind≠1)||decide (0≤s.F_Y∧s.F_Y<m.F_Out))
theorem zV8 {m:zAc} (h:1≤m.F_In∧m.F_In≤16) {w:List Int} (hw:(w.length:Int)=m.F_In+1) (s:zAa):zCi m.F_In w [s]=some (if (s.F_X.length:Int)=m.F_In then 0 else 4):=by
 rw [zCi,zGt,zAb,if_pos h,if_neg (by simp),zBD,if_pos (by simp),if_pos (by simp),show ((w.length:Int)==m.F_In+1)=true by simp [hw],if_pos rfl,zAb,zBD,if_neg (by simp [IntKind.wrap_i64]),zAb]
 by_cases g:(s.F_X.length:Int)=m.F_In
 ·rw [if_pos g,if_neg (by simpa [at'] using g),orB,if_neg (by simp)]
 ·rw [if_neg g,if_pos (by simpa [at'] using g)]
theorem zZv (s:zAa) (a:Int):zAy [s] a=some (decide ((s.F_X.length:Int)≠a)):=by
 rw [zAy,zAL,zAh,if_pos (by simp),if_pos (by simp),zFp,zAb]
 by_cases g:(s.F_X.length:Int)=a
 ·rw [if_neg (by simpa [at'] using g),zAh,if_neg (by simp [IntKind.wrap_i64])];simp [zAb,g]
 ·rw [if_pos (by simpa [at'] using g)];simp [zAb,g]
theorem zZo (s:zAa) (a:Int):zAA [s] a=some (!decide (0≤s.F_Y∧s.F_Y<a)):=by
 rw [zAA,zAK,zAi,if_pos (by simp),if_pos (by simp),zFr,orB,zAb]
 by_cases g:0≤s.F_Y∧s.F_Y<a
 ·rw [if_neg (by simp [at'];omega),zAi,if_neg (by simp [IntKind.wrap_i64])];simp [zAb,g]
 ·rw [if_pos (by simp [at'];omega),zAb,zAb];simp [g]
theorem zZH (s:zAa) (a:Int):zAB [s] a=some (decide ((s.F_X.length:Int)≠a)):=by
 rw [zAB,zAM,zAj,if_pos (by simp),if_pos (by simp),zF3,zAb]
 by_cases g:(s.F_X.length:Int)=a
 ·rw [if_neg (by simpa [at'] using g),zAj,if_neg (by simp [IntKind.wrap_i64])];simp [zAb,g]
 ·rw [if_pos (by simpa [at'] using g)];simp [zAb,g]
theorem zYO {m:zAc} (h:zCV m) {w:List Int} (hw:(w.length:Int)=dimN m) (s:zAa):∃e,zHF m w [s]=some e∧(e=0↔goes m s=true):=by
 have h':=h
 obtain ⟨h1,h2,h3⟩:=h
 rw [zHF,zVO h',zAb]
 rcases h3 with h3 | h3 | h3
 ·rw [if_pos h3.1]
  simp only
  rw [if_neg (by simp),zBO]
  simp only
  have hl:=zV8 (m:=m) h1 (w:=w) (by rw [hw,dimN,if_neg (by omega),if_neg (by omega)]) s
  rw [hl,zAb,zAb]
  refine ⟨_,rfl, ?_⟩
  unfold goes
  by_cases g:(s.F_X.length:Int)=m.F_In<;>simp [g,h3.1]
 ·rw [if_neg (by omega),if_pos h3.1]
  simp only
  rw [if_neg (by simp),zB1,zFd,zJk]
  simp only
  rw [zAb,if_pos (show (1≤m.F_In∧m.F_In≤16)∧(2≤m.F_Out∧m.F_Out≤8) from ⟨h1,h3.2.1⟩),if_neg (by simp),if_neg (by simp only;rw [hw,dimN,if_pos h3.1];simp),zZv,zAb,zAb,zZo]
  unfold goes
  by_cases g:(s.F_X.length:Int)=m.F_In
  ·rw [if_neg (by simpa using g),orB,if_neg (by simp),zAb,zAb]
   by_cases y:0≤s.F_Y∧s.F_Y<m.F_Out
   ·rw [if_neg (by simp [y])];exact ⟨_,rfl,by simp [g,y]⟩
   ·rw [if_pos (by simp [y])];exact ⟨_,rfl,by simp [g,y,h3.1]⟩
  ·rw [if_pos (by simpa using g)];exact ⟨_,rfl,by simp [g]⟩
 ·rw [if_neg (by omega),if_neg (by omega)]
  simp only
  rw [if_neg (by simp),zCa,zFQ,zIO]
  simp only
  rw [zAb,if_pos (show (1≤m.F_In∧m.F_In≤16)∧(1≤m.F_Hid∧m.F_Hid≤8) from ⟨h1,h3.2.2⟩),if_neg (by simp),if_neg (by simp only;rw [hw,dimN,if_neg (by omega),if_pos h3.1];simp),zZH,zAb,zAb]
  unfold goes
  by_cases g:(s.F_X.length:Int)=m.F_In
  ·rw [if_neg (by simpa using g),orB,if_neg (by simp)];exact ⟨_,rfl,by simp [g];omega⟩
  ·rw [if_pos (by simpa using g)];exact ⟨_,rfl,by simp [g]⟩
end Go.Proofs.YtnmlihfpenjeiaaGreat.Abs
