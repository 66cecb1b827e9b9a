/- Plain facts: is a vector pressed so? Conditions: none. -/
import Derived.Test.YtdgdgfckcnjpfaaGreatPV5
import Derived.Test.YtdgdgfckcnjpfaaGreatPHe
namespace Go.Proofs.YtdgdgfckcnjpfaaGreat.Abs
open Go Go.RowKit Go.IntWalk
set_option linter.unusedVariables false
set_option linter.unusedSimpArgs false
set_option linter.unnecessarySimpa false
set_option maxRecDepth 100000
def zYx (m w x l:Int) (b:Bool):Bool:=decide (b=decide (x<0))&&(decide (l=(zAL x m w).1)||(decide (l=(zAL x m w).1+1)&&decide ((zAL x m w).2.1≠0)))
def zHT (m w:Int):List Int→List Int→List Bool→Bool
 | x::t,l::z,b::u=>zYx m w x l b&&zHT m w t z u
 | _,_,_=>true
theorem zAdF {l q:Int} (hl:0≤l∧l≤18446744073709551615) (hq:0≤q∧q≤255):((IntKind.u64.wrap (l-q))>1↔¬(l=q∨l=q+1))∧((IntKind.u64.wrap (l-q))=1↔l=q+1):=by
 rw [IntKind.wrap_u64];omega
theorem zV9 {x m w:Int} (hw:1≤w∧w≤8) (h:(x.natAbs:Int)≤m):0≤(zAL x m w).1∧(zAL x m w).1≤255:=by
 have h1:=zQ4 (zMx hw h)
 have h2:=zHj hw
 omega
theorem zZB (v:List Int) (s:zAc) (m e:Int) (hi:I64s v) (hl:v.length≤1000000) (hm:J64 m) (hw:1≤s.F_Wide∧s.F_Wide≤8) (hu:∀n∈s.F_Lev,0≤n∧n≤18446744073709551615):
  ∀(t z:List Int) (u:List Bool) (k:Nat),v.drop k=t→s.F_Lev.drop k=z→s.F_Neg.drop k=u→z.length=t.length→u.length=t.length→(∀x∈t,(x.natAbs:Int)≤m)→
  zC9 v s (m,e) (k:Int)=some (if zHT m s.F_Wide t z u=true then .inr () else .inl false)
 | [],z,u,k,h1,h2,h3,e1,e2,hx=>by
  rw [zC9,if_neg (zAp h1)];cases z<;>cases u<;>simp_all [zHT]
 | x::t,[],u,k,h1,h2,h3,e1,e2,hx=>by simp at e1
 | x::t,l::z,[],k,h1,h2,h3,e1,e2,hx=>by simp at e2
 | x::t,l::z,b::u,k,h1,h2,h3,e1,e2,hx=>by
  obtain ⟨a1,a2,a3⟩:=zAh h1
  obtain ⟨b1,b2,b3⟩:=zAh h2
  obtain ⟨c1,c2,c3⟩:=zAh h3
  have ih:=zZB v s m e hi hl hm hw hu t z u (k+1) a3 b3 c3 (by simpa using e1) (by simpa using e2) (fun y hy=>hx y (by simp [hy]))
  have hxm:=hx x (by simp)
  have hlv:=zV9 hw hxm
  have hl64:0≤l∧l≤18446744073709551615:=hu l (by rw [←b2];exact List.mem_of_mem_drop (i:=k) (by rw [h2,b2];simp))
  have hjx:J64 x:=zGy hi h1
  obtain ⟨g1,g2⟩:=zAdF hl64 hlv
  rw [zC9,if_pos a1,zGd,if_pos ⟨by omega,a1⟩,a2,zXZ hjx hm,zAb,if_pos ⟨by omega,b1⟩,if_neg (by simp [zMx hw hxm]),if_pos ⟨by omega,c1⟩,if_pos ⟨by omega,a1⟩,c2,b2,zAx (by omega),ih]
  rw [zHT,zYx]
  by_cases hb:b=decide (x<0)
  ·rw [if_neg (by simpa using hb)]
   simp only [hb,decide_true,Bool.true_and]
   by_cases q1:l=(zAL x m s.F_Wide).1
   ·rw [if_neg (by rw [g1];omega),if_neg (by rw [g2];omega),zAb];simp [q1]
   by_cases q2:l=(zAL x m s.F_Wide).1+1
   ·have q0:¬(zAL x m s.F_Wide).1+1=(zAL x m s.F_Wide).1:=by omega
    rw [if_neg (by rw [g1];omega),if_pos (g2.2 q2),zAb]
    by_cases q3:(zAL x m s.F_Wide).2.1=0
    ·simp [q1,q2,q3,q0]
    ·simp [q1,q2,q3,q0]
   ·rw [if_pos (g1.2 (by omega)),zAb];simp [q1,q2]
  ·rw [if_pos hb,zAb];simp [hb]
def isP (h:zAi) (v:List Int) (s:zAc):Bool:=
 if h.F_Scheme=0 then decide (v=s.F_V)
 else if h.F_Scheme=1 then decide ((⟨1,(v.length:Int),zCL h.F_K.toNat v,(zCL h.F_K.toNat v).map (at' v),0,0,[],[]⟩:zAc)=s)
 else if h.F_Scheme=2 then decide (s.F_Wide=h.F_Wide)&&decide ((zCa v).2=0∧s.F_Dim=(v.length:Int)∧s.F_Scale=zCE v)&&zHT (zCE v) s.F_Wide v s.F_Lev s.F_Neg
 else decide ((zBS v).2=0∧s.F_Scale=(zBS v).1∧s.F_Neg=v.map fun x=>decide (x<0))
def zUE (h:zAi) (v:List Int) (s:zAc):Bool:=decide (zCZ h (v.length:Int))&&(mayP s&&(decide (s.F_Scheme=h.F_Scheme)&&isP h v s))
theorem zAcT {k:Nat} {v:List Int} {s:zAc} (hk:k≤v.length) (h0:0<v.length) (hv:v.length≤4096) (hs:FitS s):
  zME (k:Int) v s=some (decide ((⟨1,(v.length:Int),zCL k v,(zCL k v).map (at' v),0,0,[],[]⟩:zAc)=s)):=by
 have hpl:(zCL k v).length≤4096:=by
  have:=(zK5 (lo:=0) (hi:=(v.length:Int)) (zFL k v) (fun n hn=>by obtain ⟨i,h1,rfl,_⟩:=(zOK k v n).1 hn;omega))
  rcases this with h | h
  ·omega
  ·simp [h]
 have hlen:=hs.Lev
 have hnen:=hs.Neg
 rw [zME,zKs k v hk h0 hv,zAb]
 simp only
 rw [if_neg (by simp),zAc0 _ _ (by omega),zAb,zAb,zUl _ _ (by simp;omega)]
 obtain ⟨s1,s2,s3,s4,s5,s6,s7,s8⟩:=s
 simp only at hlen hnen
 simp only [zAc.mk.injEq]
 by_cases c3:zCL k v=s3
 rotate_left
 ·simp [c3,zAb]
 subst c3
 by_cases c4:(zCL k v).map (at' v)=s4
 rotate_left
 ·simp [c4,zAb]
 subst c4
 have hw:((IntKind.i64.wrap ((s7.length:Int)+(s8.length:Int)))==0)=decide (s7=[]∧s8=[]):=by
  have h0:IntKind.i64.wrap ((s7.length:Int)+(s8.length:Int))=0↔s7.length=0∧s8.length=0:=by rw [IntKind.wrap_i64];omega
  rw [beqI,decide_eq_decide,h0,List.length_eq_zero_iff,List.length_eq_zero_iff]
 rw [hw]
 simp only [decide_true,Bool.not_true,Bool.false_eq_true,if_false,zAb,andB,beqI]
 congr 1
 rw [Bool.eq_iff_iff]
 simp only [Bool.and_eq_true,decide_eq_true_eq]
 constructor
 ·rintro ⟨⟨⟨⟨a,b⟩,c⟩,d⟩,e,f⟩;exact ⟨a.symm,b.symm,trivial,trivial,c.symm,d.symm,e.symm,f.symm⟩
 ·rintro ⟨a,b,_,_,c,d,e,f⟩;exact ⟨⟨⟨⟨a.symm,b.symm⟩,c.symm⟩,d.symm⟩,e.symm,f.symm⟩
theorem zAdH {v:List Int} {s:zAc} (hi:I64s v) (hs:Fits s) (hm:mayP s=true) (h2:s.F_Scheme=2):
  zII v s=some (decide ((zCa v).2=0∧s.F_Dim=(v.length:Int)∧s.F_Scale=zCE v)&&zHT (zCE v) s.F_Wide v s.F_Lev s.F_Neg):=by
 rw [zII,zX0 hi,zAb]
 by_cases he:(zCa v).2≠0
 ·rw [if_pos he,zAb,if_pos rfl,zAb,if_pos rfl,zAb,if_pos rfl,zAb,if_pos rfl];simp [he]
 have he':(zCa v).2=0:=by simpa using he
 obtain ⟨v4,vm,vj⟩:=zOV he'
 rw [if_neg he,zL5 hs.S,zAb,zAb,hm,vm]
 simp only [orB,zAb,h2]
 by_cases hd:s.F_Dim=(v.length:Int)
 rotate_left
 ·simp [hd]
 by_cases hc:s.F_Scale=zCE v
 rotate_left
 ·simp [hd,hc]
 have hM:1≤s.F_Wide∧s.F_Wide≤8∧s.F_Lev.length=v.length∧s.F_Neg.length=v.length:=by
  rcases zEL.1 hm with ⟨d0,d1,h,z,y⟩ | ⟨d0,d1,h,c,z,y⟩ | ⟨d0,d1,h,w0,w1,l,x,c,n,z⟩ | ⟨d0,d1,h,c,n,z⟩<;>omega
 have hl:=zZB v s (zCE v) (zCa v).2 hi (by omega) (zRC vj) ⟨hM.1,hM.2.1⟩ hs.S.u v s.F_Lev s.F_Neg 0 rfl rfl rfl hM.2.2.1 hM.2.2.2 (fun x hx=>zPz hx)
 rw [show ((0:Nat):Int)=0 from rfl] at hl
 simp only [Bool.not_true,Bool.or_false,bne_self_eq_false,hd,hc,Bool.false_eq_true,if_false,decide_false]
 rw [show zCa v=(zCE v,(zCa v).2) from by rw [←vm]]
 rw [hl,he']
 by_cases hn:zHT (zCE v) s.F_Wide v s.F_Lev s.F_Neg=true
 ·rw [if_pos hn,zAb];simp [hn]
 ·rw [if_neg hn,zAb];simp [hn]
theorem zAco {v:List Int} {s:zAc} (hi:I64s v) (hl:v.length≤4096) (hs:Fits s) (hm:mayP s=true) (h3:s.F_Scheme=3):
  zMM v s=some (decide ((zBS v).2=0∧s.F_Scale=(zBS v).1∧s.F_Neg=v.map fun x=>decide (x<0))):=by
 rw [zMM,zWE hi (by omega),zAb,zJp]
 by_cases he:(zBS v).2≠0
 ·rw [if_pos he];simp only;rw [if_neg he,zAb,if_neg (by simp),zAb,if_neg (by simp),zAb,if_neg (by simp),zAb];simp [he]
 have he':(zBS v).2=0:=by simpa using he
 rw [if_neg he]
 simp only
 rw [if_pos trivial,zL5 hs.S,zAb,hm,zAb,if_pos rfl,zAb,h3,if_pos (show ((3:Int)==3)=true from rfl),zAb]
 have hn:=hs.S.Neg
 by_cases hc:s.F_Scale=(zBS v).1
 ·rw [if_pos (by simpa using hc),zQL _ _ hn,zAb,zAb];simp [he',hc]
 ·rw [if_neg (by simpa using hc),zAb];simp [hc]
theorem zAcD {h:zAi} {v:List Int} {s:zAc} (hi:I64s v) (hs:Fits s):zHV h v s=some (zUE h v s):=by
 rw [zHV,zWB,zAb,zUE]
 by_cases hw:zCZ h (v.length:Int)
 rotate_left
 ·rw [if_neg hw,if_neg (by simp)];simp [hw]
 rw [if_pos hw,if_pos rfl,zL5 hs.S,zAb]
 by_cases hm:mayP s=true
 rotate_left
 ·rw [if_neg hm];simp [hm]
 rw [if_pos hm]
 by_cases he:s.F_Scheme=h.F_Scheme
 rotate_left
 ·rw [if_neg he];simp [he]
 rw [if_pos he,zC4,zAb,isP]
 obtain ⟨hd,hw'⟩:=hw
 by_cases c0:h.F_Scheme=0
 ·rw [if_pos c0,if_pos c0,zJv,zUl _ _ (by omega),zAb,zAb,decide_eq_true (show zCZ h (v.length:Int) from ⟨hd,hw'⟩),hm,decide_eq_true he];simp
 rw [if_neg c0,if_neg c0]
 by_cases c1:h.F_Scheme=1
 ·have hT:=zAcT (k:=h.F_K.toNat) (v:=v) (s:=s) (by omega) (by omega) (by omega) hs.S
  rw [Int.toNat_of_nonneg (by omega)] at hT
  rw [if_pos c1,if_pos c1,zI7,hT,zAb,zAb,decide_eq_true (show zCZ h (v.length:Int) from ⟨hd,hw'⟩),hm,decide_eq_true he];simp
 rw [if_neg c1,if_neg c1]
 by_cases c2:h.F_Scheme=2
 ·rw [if_pos c2,if_pos c2,zJx,decide_eq_true (show zCZ h (v.length:Int) from ⟨hd,hw'⟩),hm,decide_eq_true he]
  by_cases cw:s.F_Wide=h.F_Wide
  ·rw [if_pos cw,zAdH hi hs hm (by omega),zAb,zAb,zAb];simp [cw]
  ·rw [if_neg cw,zAb,zAb];simp [cw]
 rw [if_neg c2,if_neg c2]
 have c3:h.F_Scheme=3:=by omega
 rw [if_pos c3,zIK,zAco hi (by omega) hs hm (by omega),zAb,zAb,decide_eq_true (show zCZ h (v.length:Int) from ⟨hd,hw'⟩),hm,decide_eq_true he];simp
end Go.Proofs.YtdgdgfckcnjpfaaGreat.Abs
