/- Plain facts: the document presses and loosens likewise. Conditions: none. -/
import Derived.Test.YtdgdgfckcnjpfaaGreatPW1
import Derived.Test.YtdgdgfckcnjpfaaGreatPH10
import Derived.Test.YtdgdgfckcnjpfaaGreatPV6
namespace Go.Proofs.YtdgdgfckcnjpfaaGreat.Abs
open Go Go.RowKit Go.IntWalk
set_option linter.unusedVariables false
set_option linter.unusedSimpArgs false
set_option linter.unnecessarySimpa false
set_option maxRecDepth 100000
theorem zZf (h:zAi) (d:Int):zEU h d=some (if zCZ h d then 0 else 1):=by
 obtain ⟨s,k,w⟩:=h
 have hb:∀b:Bool,(if b=false then some 1 else some 0:Option Int)=some (if b then 0 else 1):=fun b=>by cases b<;>rfl
 rw [zEU]
 simp only [orB,andB,zAb,hb]
 unfold zCZ
 by_cases c0:s=0
 ·subst c0
  by_cases h1:1≤d∧d≤4096<;>by_cases h2:k=0<;>by_cases h3:w=0<;>simp [h1,h2,h3]<;>omega
 by_cases c1:s=1
 ·subst c1
  by_cases h1:1≤d∧d≤4096<;>by_cases h2:0≤k∧k≤d<;>by_cases h3:w=0<;>simp [h1,h2,h3]<;>omega
 by_cases c2:s=2
 ·subst c2
  by_cases h1:1≤d∧d≤4096<;>by_cases h2:k=0<;>by_cases h3:0<w∧w≤8<;>simp [h1,h2,h3]<;>omega
 by_cases c3:s=3
 ·subst c3
  by_cases h1:1≤d∧d≤4096<;>by_cases h2:k=0<;>by_cases h3:w=0<;>simp [h1,h2,h3]<;>omega
 ·simp [c0,c1,c2,c3]
theorem zXJ (s:zAc) (hf:Fits s) (hm:MayS s) (h2:s.F_Scheme=2):∀(t:List Int) (u:List Bool) (k:Nat) (acc:List Int),s.F_Lev.drop k=t→s.F_Neg.drop k=u→acc.length≤k→
  zBa s (k:Int) acc=some (acc++List.zipWith (valQ s.F_Scale s.F_Wide) t u):=by
 have hM:0<s.F_Wide∧s.F_Wide≤8∧s.F_Lev.length=s.F_Neg.length∧0≤s.F_Scale∧s.F_Lev.length≤4096∧∀n∈s.F_Lev,n.toNat<2 ^ s.F_Wide.toNat:=by
  rcases hm with ⟨d0,d1,h,v,z⟩ | ⟨d0,d1,h,c,v,z⟩ | ⟨d0,d1,h,w0,w1,l,x,c,n,z⟩ | ⟨d0,d1,h,c,n,z⟩
  ·omega
  ·omega
  ·exact ⟨w0,w1,by omega,c,by omega,x⟩
  ·omega
 obtain ⟨w0,w1,hl,c0,l4,hx⟩:=hM
 intro t
 induction t with
 | nil=>intro u k acc h1 h3 h4;rw [zBa,if_neg (zAp h1)];simp
 | cons x t ih=>
  intro u k acc h1 h3 h4
  have g1:=zAh h1
  have hx':x∈s.F_Lev:=by
   have:x∈s.F_Lev.drop k:=by rw [h1];simp
   exact List.mem_of_mem_drop this
  cases u with
  | nil=>
   have:=List.drop_eq_nil_iff.1 h3
   omega
  | cons b u=>
   have g2:=zAh h3
   have hu:=hf.S.u x hx'
   have hle:=(zWv (w:=s.F_Wide) (by omega) hu.1).1 (hx x hx')
   have hv:=zQU (w:=s.F_Wide) (m:=s.F_Scale) (l:=x) (by omega) c0 hle
   have hsc:=hf.Sc
   have e:zDz x s.F_Scale s.F_Wide=(((s.F_Scale.toNat*x.toNat/zAH s.F_Wide:Nat):Int),0):=by rw [zDz,if_pos ⟨by omega,c0,hle⟩]
   rw [zBa,if_pos g1.1,if_pos (by omega),g1.2.1,zAca hu hsc,zAb,if_pos (by omega),g2.2.1,zAx (by omega)]
   cases b with
   | true=>
    have e2:IntKind.i64.wrap (0-(zDz x s.F_Scale s.F_Wide).1)=valQ s.F_Scale s.F_Wide x true:=by
     rw [valQ,if_pos rfl]
     refine zI5 ?_
     rw [e]
     generalize s.F_Scale.toNat*x.toNat/zAH s.F_Wide=z at hv⊢
     unfold J64 at*;simp only;omega
    rw [if_pos rfl,if_pos (zEy (by simp;omega)),zAb,e2,ih u (k+1) _ g1.2.2 g2.2.2 (by simp;omega)];simp
   | false=>
    have e2:(zDz x s.F_Scale s.F_Wide).1=valQ s.F_Scale s.F_Wide x false:=by rw [valQ,if_neg (by simp)]
    rw [if_neg (by simp),if_pos (zEy (by simp;omega)),e2,ih u (k+1) _ g1.2.2 g2.2.2 (by simp;omega)];simp
theorem zLX (s:zAc) (hl:s.F_Neg.length≤1000000) (hm:0≤s.F_Scale) (hj:J64 s.F_Scale):∀(t:List Bool) (k:Nat) (acc:List Int),s.F_Neg.drop k=t→acc.length≤k→
  zA9 s (k:Int) acc=some (acc++t.map (zPt s.F_Scale))
 | [],k,acc,h1,h2=>by rw [zA9,if_neg (zAp h1)];simp
 | x::t,k,acc,h1,h2=>by
  have g1:=zAh h1
  rw [zA9,if_pos g1.1,if_pos (by omega),g1.2.1,zAx (by omega)]
  cases x with
  | true=>
   have e:IntKind.i64.wrap (0-s.F_Scale)=zPt s.F_Scale true:=by rw [zI5 (by unfold J64 at*;omega)];rfl
   rw [if_pos rfl,if_pos (zEy (by simp;omega)),zAb,e,zLX s hl hm hj t (k+1) _ g1.2.2 (by simp;omega)];simp
  | false=>
   rw [if_neg (by simp),if_pos (zEy (by simp;omega)),zLX s hl hm hj t (k+1) _ g1.2.2 (by simp;omega)];simp [zPt]
theorem zQC (s:zAc) (hl:s.F_L.length≤4611686018427387904) (he:s.F_L.length=s.F_V.length) (D:Int) (hv:∀n∈s.F_L,0≤n∧n<D):∀(t u:List Int) (k:Nat) (out:List Int),s.F_L.drop k=t→s.F_V.drop k=u→(out.length:Int)=D→zBv s (k:Int) out=some (zDP out t u)
 | [],u,k,out,h1,h2,h3=>by
  have:u=[]:=by
   have:=List.drop_eq_nil_iff.1 h1
   rw [←h2];exact List.drop_eq_nil_of_le (by omega)
  rw [zBv,if_neg (zAp h1),this];rfl
 | x::t,[],k,out,h1,h2,h3=>by
  have:=List.drop_eq_nil_iff.1 h2
  have:=(zAh h1).1
  omega
 | x::t,y::u,k,out,h1,h2,h3=>by
  have g1:=zAh h1
  have g2:=zAh h2
  have hx:x∈s.F_L:=by
   have:x∈s.F_L.drop k:=by rw [h1];simp
   exact List.mem_of_mem_drop this
  have:=hv x hx
  rw [zBv,if_pos g1.1,if_pos (by omega),if_pos (by omega),g1.2.1,if_pos (by omega),g2.2.1,zAb,zAx (by omega),zQC s hl he D hv t u (k+1) _ g1.2.2 g2.2.2 (by simpa using h3)]
  rfl
theorem zRg {s:zAc} (hf:Fits s):zDi s=some (zCH s):=by
 rw [zDi,zIc hf.S,zAb,zCH]
 cases hmp:mayP s with
 | false=>rw [if_pos rfl];rfl
 | true=>
 have hm:=zEL.1 hmp
 rw [if_neg (by simp),zLv,if_pos rfl]
 rcases hm with ⟨d0,d1,h,v,z⟩ | ⟨d0,d1,h,c,v,z⟩ | ⟨d0,d1,h,w0,w1,l,x,c,n,z⟩ | ⟨d0,d1,h,c,n,z⟩
 ·have n1:¬s.F_Scheme=1:=by omega
  have n2:¬s.F_Scheme=2:=by omega
  have n3:¬s.F_Scheme=3:=by omega
  rw [if_neg n1,if_neg n2,if_neg n3,if_pos h,if_pos (zEy (by omega))]
 ·have n0:¬s.F_Scheme=0:=by omega
  obtain ⟨p1,p2,p3⟩:=zPc.1 c
  have hS:=zQC s hf.S.L v s.F_Dim p3 s.F_L s.F_V 0 (List.replicate s.F_Dim.toNat 0) rfl rfl (by simp;omega)
  rw [show ((0:Nat):Int)=0 from rfl] at hS
  rw [if_pos h,if_neg n0,if_pos h,if_pos (by omega),zAb,hS];rfl
 ·have n0:¬s.F_Scheme=0:=by omega
  have n1:¬s.F_Scheme=1:=by omega
  have hL:=zXJ s hf (.level d0 d1 h w0 w1 l x c n z) h s.F_Lev s.F_Neg 0 [] rfl rfl (by simp)
  rw [show ((0:Nat):Int)=0 from rfl] at hL
  simp only [List.nil_append] at hL
  rw [if_neg n1,if_pos h,if_neg n0,if_neg n1,if_pos h,zGK,zIc hf.S,zAb,hmp,orB]
  rw [show (decide (true=false)||(s.F_Scheme !=2))=false by simp [h],if_neg Bool.false_ne_true,hL]
  rfl
 ·have n0:¬s.F_Scheme=0:=by omega
  have n1:¬s.F_Scheme=1:=by omega
  have n2:¬s.F_Scheme=2:=by omega
  have hL:=zLX s (by omega) c hf.Sc s.F_Neg 0 [] rfl (by simp)
  rw [show ((0:Nat):Int)=0 from rfl] at hL
  simp only [List.nil_append] at hL
  rw [if_neg n1,if_neg n2,if_pos h,if_neg n0,if_neg n1,if_neg n2,zGN,zIc hf.S,zAb,hmp,orB]
  rw [show (decide (true=false)||(s.F_Scheme !=3))=false by simp [h],if_neg Bool.false_ne_true,hL]
  rfl
theorem zAac {v:List Int} {s:zAc} (hi:I64s v) (hf:Fits s):zFE v s=some (zJX v s):=by
 rw [zFE,zRg hf,zAb,zJX]
 by_cases h:(zCH s).2≠0
 ·rw [if_pos h,if_pos h]
 ·rw [if_neg h,if_neg h,zAdc hi (zXo hf)];rfl
theorem zAcL {op:Int→Int→Int} {a b:List Int}:(vecP op a b).1.length≤a.length:=by
 unfold vecP zPs
 repeat' split
 all_goals simp only [List.length_nil,List.length_zipWith]
 all_goals omega
end Go.Proofs.YtdgdgfckcnjpfaaGreat.Abs
