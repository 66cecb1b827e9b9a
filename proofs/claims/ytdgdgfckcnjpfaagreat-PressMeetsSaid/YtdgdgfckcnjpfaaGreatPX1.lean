/- Plain facts: is a vector pressed so? Conditions: none. -/
import Derived.Test.YtdgdgfckcnjpfaaGreatPV5
import Derived.Test.YtdgdgfckcnjpfaaGreatPHe
namespace Go.Proofs.YtdgdgfckcnjpfaaGreat.Abs
open Go Go.RowKit Go.IntWalk
set_option linter.unusedVariables false
set_option linter.unusedSimpArgs false
set_option linter.unnecessarySimpa false
set_option maxRecDepth 100000
def zVz (m w x l:Int) (b:Bool):Bool:=decide (b=decide (x<0))&&(decide (l=(zBh x m w).1)||(decide (l=(zBh x m w).1+1)&&decide ((zBh x m w).2.1≠0)))
def zK9 (m w:Int):List Int→List Int→List Bool→Bool
 | x::t,l::z,b::u=>zVz m w x l b&&zK9 m w t z u
 | _,_,_=>true
theorem zAcA {l q:Int} (hl:0≤l∧l≤18446744073709551615) (hq:0≤q∧q≤255):((IntKind.u64.wrap (l-q))>1↔¬(l=q∨l=q+1))∧((IntKind.u64.wrap (l-q))=1↔l=q+1):=by
 rw [IntKind.wrap_u64];omega
theorem zAaQ {x m w:Int} (hw:1≤w∧w≤8) (h:(x.natAbs:Int)≤m):0≤(zBh x m w).1∧(zBh x m w).1≤255:=by
 have h1:=zOW (zMw hw h)
 have h2:=zJV hw
 omega
theorem zXS (v:List Int) (s:zAc) (m e:Int) (hi:I64s v) (hl:v.length≤1000000) (hm:J64 m) (hw:1≤s.F_Wide∧s.F_Wide≤8) (hu:∀n∈s.F_Lev,0≤n∧n≤18446744073709551615):
  ∀(t z:List Int) (u:List Bool) (k:Nat),v.drop k=t→s.F_Lev.drop k=z→s.F_Neg.drop k=u→z.length=t.length→u.length=t.length→(∀x∈t,(x.natAbs:Int)≤m)→
  zC5 v s (m,e) (k:Int)=some (if zK9 m s.F_Wide t z u=true then .inr () else .inl false)
 | [],z,u,k,h1,h2,h3,e1,e2,hx=>by
  rw [zC5,if_neg (zAI h1)];cases z<;>cases u<;>simp_all [zK9]
 | x::t,[],u,k,h1,h2,h3,e1,e2,hx=>by simp at e1
 | x::t,l::z,[],k,h1,h2,h3,e1,e2,hx=>by simp at e2
 | x::t,l::z,b::u,k,h1,h2,h3,e1,e2,hx=>by
  obtain ⟨a1,a2,a3⟩:=zAm h1
  obtain ⟨b1,b2,b3⟩:=zAm h2
  obtain ⟨c1,c2,c3⟩:=zAm h3
  have ih:=zXS v s m e hi hl hm hw hu t z u (k+1) a3 b3 c3 (by simpa using e1) (by simpa using e2) (fun y hy=>hx y (by simp [hy]))
  have hxm:=hx x (by simp)
  have hlv:=zAaQ hw hxm
  have hl64:0≤l∧l≤18446744073709551615:=hu l (by rw [←b2];exact List.mem_of_mem_drop (i:=k) (by rw [h2,b2];simp))
  have hjx:J64 x:=zL0 hi h1
  obtain ⟨g1,g2⟩:=zAcA hl64 hlv
  rw [zC5,if_pos a1,zFU,if_pos ⟨by omega,a1⟩,a2,zV9 hjx hm,zAb,if_pos ⟨by omega,b1⟩,if_neg (by simp [zMw hw hxm]),if_pos ⟨by omega,c1⟩,if_pos ⟨by omega,a1⟩,c2,b2,zA6 (by omega),ih]
  rw [zK9,zVz]
  by_cases hb:b=decide (x<0)
  ·rw [if_neg (by simpa using hb)]
   simp only [hb,decide_true,Bool.true_and]
   by_cases q1:l=(zBh x m s.F_Wide).1
   ·rw [if_neg (by rw [g1];omega),if_neg (by rw [g2];omega),zAb];simp [q1]
   by_cases q2:l=(zBh x m s.F_Wide).1+1
   ·have q0:¬(zBh x m s.F_Wide).1+1=(zBh x m s.F_Wide).1:=by omega
    rw [if_neg (by rw [g1];omega),if_pos (g2.2 q2),zAb]
    by_cases q3:(zBh x m s.F_Wide).2.1=0
    ·simp [q1,q2,q3,q0]
    ·simp [q1,q2,q3,q0]
   ·rw [if_pos (g1.2 (by omega)),zAb];simp [q1,q2]
  ·rw [if_pos hb,zAb];simp [hb]
def isP (h:zAk) (v:List Int) (s:zAc):Bool:=
 if h.F_Scheme=0 then decide (v=s.F_V)
 else if h.F_Scheme=1 then decide ((⟨1,(v.length:Int),zDo h.F_K.toNat v,(zDo h.F_K.toNat v).map (at' v),0,0,[],[]⟩:zAc)=s)
 else if h.F_Scheme=2 then decide (s.F_Wide=h.F_Wide)&&decide ((zC8 v).2=0∧s.F_Dim=(v.length:Int)∧s.F_Scale=zDq v)&&zK9 (zDq v) s.F_Wide v s.F_Lev s.F_Neg
 else decide ((zCW v).2=0∧s.F_Scale=(zCW v).1∧s.F_Neg=v.map fun x=>decide (x<0))
def zRH (h:zAk) (v:List Int) (s:zAc):Bool:=decide (zCU h (v.length:Int))&&(mayP s&&(decide (s.F_Scheme=h.F_Scheme)&&isP h v s))
theorem zAbD {k:Nat} {v:List Int} {s:zAc} (hk:k≤v.length) (h0:0<v.length) (hv:v.length≤4096) (hs:FitS s):
  zMI (k:Int) v s=some (decide ((⟨1,(v.length:Int),zDo k v,(zDo k v).map (at' v),0,0,[],[]⟩:zAc)=s)):=by
 have hpl:(zDo k v).length≤4096:=by
  have:=(zH7 (lo:=0) (hi:=(v.length:Int)) (zIg k v) (fun n hn=>by obtain ⟨i,h1,rfl,_⟩:=(zQ2 k v n).1 hn;omega))
  rcases this with h | h
  ·omega
  ·simp [h]
 have hlen:=hs.Lev
 have hnen:=hs.Neg
 rw [zMI,zOO k v hk h0 hv,zAb]
 simp only
 rw [if_neg (by simp),zAbO _ _ (by omega),zAb,zAb,zNW _ _ (by simp;omega)]
 obtain ⟨s1,s2,s3,s4,s5,s6,s7,s8⟩:=s
 simp only at hlen hnen
 simp only [zAc.mk.injEq]
 by_cases c3:zDo k v=s3
 rotate_left
 ·simp [c3,zAb]
 subst c3
 by_cases c4:(zDo k v).map (at' v)=s4
 rotate_left
 ·simp [c4,zAb]
 subst c4
 have hw:((IntKind.i64.wrap ((s7.length:Int)+(s8.length:Int)))==0)=decide (s7=[]∧s8=[]):=by
  have h0:IntKind.i64.wrap ((s7.length:Int)+(s8.length:Int))=0↔s7.length=0∧s8.length=0:=by rw [IntKind.wrap_i64];omega
  rw [beqI,decide_eq_decide,h0,List.length_eq_zero_iff,List.length_eq_zero_iff]
 rw [hw]
 simp only [decide_true,Bool.not_true,Bool.false_eq_true,if_false,zAb,andB,beqI]
 congr 1
 rw [Bool.eq_iff_iff]
 simp only [Bool.and_eq_true,decide_eq_true_eq]
 constructor
 ·rintro ⟨⟨⟨⟨a,b⟩,c⟩,d⟩,e,f⟩;exact ⟨a.symm,b.symm,trivial,trivial,c.symm,d.symm,e.symm,f.symm⟩
 ·rintro ⟨a,b,_,_,c,d,e,f⟩;exact ⟨⟨⟨⟨a.symm,b.symm⟩,c.symm⟩,d.symm⟩,e.symm,f.symm⟩
theorem zAc4 {v:List Int} {s:zAc} (hi:I64s v) (hs:Fits s) (hm:mayP s=true) (h2:s.F_Scheme=2):
  zHP v s=some (decide ((zC8 v).2=0∧s.F_Dim=(v.length:Int)∧s.F_Scale=zDq v)&&zK9 (zDq v) s.F_Wide v s.F_Lev s.F_Neg):=by
 rw [zHP,zWX hi,zAb]
 by_cases he:(zC8 v).2≠0
 ·rw [if_pos he,zAb,if_pos rfl,zAb,if_pos rfl,zAb,if_pos rfl,zAb,if_pos rfl];simp [he]
 have he':(zC8 v).2=0:=by simpa using he
 obtain ⟨v4,vm,vj⟩:=zRg he'
 rw [if_neg he,zJX hs.S,zAb,zAb,hm,vm]
 simp only [orB,zAb,h2]
 by_cases hd:s.F_Dim=(v.length:Int)
 rotate_left
 ·simp [hd]
 by_cases hc:s.F_Scale=zDq v
 rotate_left
 ·simp [hd,hc]
 have hM:1≤s.F_Wide∧s.F_Wide≤8∧s.F_Lev.length=v.length∧s.F_Neg.length=v.length:=by
  rcases zEz.1 hm with ⟨d0,d1,h,z,y⟩ | ⟨d0,d1,h,c,z,y⟩ | ⟨d0,d1,h,w0,w1,l,x,c,n,z⟩ | ⟨d0,d1,h,c,n,z⟩<;>omega
 have hl:=zXS v s (zDq v) (zC8 v).2 hi (by omega) (zTr vj) ⟨hM.1,hM.2.1⟩ hs.S.u v s.F_Lev s.F_Neg 0 rfl rfl rfl hM.2.2.1 hM.2.2.2 (fun x hx=>zN4 hx)
 rw [show ((0:Nat):Int)=0 from rfl] at hl
 simp only [Bool.not_true,Bool.or_false,bne_self_eq_false,hd,hc,Bool.false_eq_true,if_false,decide_false]
 rw [show zC8 v=(zDq v,(zC8 v).2) from by rw [←vm]]
 rw [hl,he']
 by_cases hn:zK9 (zDq v) s.F_Wide v s.F_Lev s.F_Neg=true
 ·rw [if_pos hn,zAb];simp [hn]
 ·rw [if_neg hn,zAb];simp [hn]
theorem zAak {v:List Int} {s:zAc} (hi:I64s v) (hl:v.length≤4096) (hs:Fits s) (hm:mayP s=true) (h3:s.F_Scheme=3):
  zMs v s=some (decide ((zCW v).2=0∧s.F_Scale=(zCW v).1∧s.F_Neg=v.map fun x=>decide (x<0))):=by
 rw [zMs,zUh hi (by omega),zAb,zPY]
 by_cases he:(zCW v).2≠0
 ·rw [if_pos he];simp only;rw [if_neg he,zAb,if_neg (by simp),zAb,if_neg (by simp),zAb,if_neg (by simp),zAb];simp [he]
 have he':(zCW v).2=0:=by simpa using he
 rw [if_neg he]
 simp only
 rw [if_pos trivial,zJX hs.S,zAb,hm,zAb,if_pos rfl,zAb,h3,if_pos (show ((3:Int)==3)=true from rfl),zAb]
 have hn:=hs.S.Neg
 by_cases hc:s.F_Scale=(zCW v).1
 ·rw [if_pos (by simpa using hc),zPG _ _ hn,zAb,zAb];simp [he',hc]
 ·rw [if_neg (by simpa using hc),zAb];simp [hc]
theorem zAbN {h:zAk} {v:List Int} {s:zAc} (hi:I64s v) (hs:Fits s):zHq h v s=some (zRH h v s):=by
 rw [zHq,zTU,zAb,zRH]
 by_cases hw:zCU h (v.length:Int)
 rotate_left
 ·rw [if_neg hw,if_neg (by simp)];simp [hw]
 rw [if_pos hw,if_pos rfl,zJX hs.S,zAb]
 by_cases hm:mayP s=true
 rotate_left
 ·rw [if_neg hm];simp [hm]
 rw [if_pos hm]
 by_cases he:s.F_Scheme=h.F_Scheme
 rotate_left
 ·rw [if_neg he];simp [he]
 rw [if_pos he,zDd,zAb,isP]
 obtain ⟨hd,hw'⟩:=hw
 by_cases c0:h.F_Scheme=0
 ·rw [if_pos c0,if_pos c0,zIW,zNW _ _ (by omega),zAb,zAb,decide_eq_true (show zCU h (v.length:Int) from ⟨hd,hw'⟩),hm,decide_eq_true he];simp
 rw [if_neg c0,if_neg c0]
 by_cases c1:h.F_Scheme=1
 ·have hT:=zAbD (k:=h.F_K.toNat) (v:=v) (s:=s) (by omega) (by omega) (by omega) hs.S
  rw [Int.toNat_of_nonneg (by omega)] at hT
  rw [if_pos c1,if_pos c1,zJf,hT,zAb,zAb,decide_eq_true (show zCU h (v.length:Int) from ⟨hd,hw'⟩),hm,decide_eq_true he];simp
 rw [if_neg c1,if_neg c1]
 by_cases c2:h.F_Scheme=2
 ·rw [if_pos c2,if_pos c2,zJg,decide_eq_true (show zCU h (v.length:Int) from ⟨hd,hw'⟩),hm,decide_eq_true he]
  by_cases cw:s.F_Wide=h.F_Wide
  ·rw [if_pos cw,zAc4 hi hs hm (by omega),zAb,zAb,zAb];simp [cw]
  ·rw [if_neg cw,zAb,zAb];simp [cw]
 rw [if_neg c2,if_neg c2]
 have c3:h.F_Scheme=3:=by omega
 rw [if_pos c3,zIb,zAak hi (by omega) hs hm (by omega),zAb,zAb,decide_eq_true (show zCU h (v.length:Int) from ⟨hd,hw'⟩),hm,decide_eq_true he];simp
end Go.Proofs.YtdgdgfckcnjpfaaGreat.Abs
