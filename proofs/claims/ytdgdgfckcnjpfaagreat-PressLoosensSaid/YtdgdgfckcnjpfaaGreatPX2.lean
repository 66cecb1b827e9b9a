/- Plain facts: what the document says of vectors that are pressed so, and of bytes. Conditions: none. -/
import Derived.Test.YtdgdgfckcnjpfaaGreatPX1
import Derived.Test.YtdgdgfckcnjpfaaGreatPW2
namespace Go.Proofs.YtdgdgfckcnjpfaaGreat.Abs
open Go Go.RowKit Go.IntWalk
set_option linter.unusedVariables false
set_option linter.unusedSimpArgs false
set_option linter.unnecessarySimpa false
set_option maxRecDepth 100000
theorem zXS (v:List Int) (s:zAc) (m e:Int) (hi:I64s v) (hl:v.length≤1000000) (hm:J64 m) (hw:1≤s.F_Wide∧s.F_Wide≤8):
  ∀(t z:List Int) (u:List Bool) (k:Nat),v.drop k=t→s.F_Lev.drop k=z→s.F_Neg.drop k=u→z.length=t.length→u.length=t.length→(∀x∈t,(x.natAbs:Int)≤m)→
  zBs v s (m,e) (k:Int)=some (if zHT m s.F_Wide t z u=true then .inr () else .inl false)
 | [],z,u,k,h1,h2,h3,e1,e2,hx=>by
  rw [zBs,if_neg (zAp h1)];cases z<;>cases u<;>simp_all [zHT]
 | x::t,[],u,k,h1,h2,h3,e1,e2,hx=>by simp at e1
 | x::t,l::z,[],k,h1,h2,h3,e1,e2,hx=>by simp at e2
 | x::t,l::z,b::u,k,h1,h2,h3,e1,e2,hx=>by
  obtain ⟨a1,a2,a3⟩:=zAh h1
  obtain ⟨b1,b2,b3⟩:=zAh h2
  obtain ⟨c1,c2,c3⟩:=zAh h3
  have ih:=zXS v s m e hi hl hm hw t z u (k+1) a3 b3 c3 (by simpa using e1) (by simpa using e2) (fun y hy=>hx y (by simp [hy]))
  have hlv:=zV9 hw (hx x (by simp))
  have hjx:J64 x:=zGy hi h1
  rw [zBs,if_pos a1,if_pos ⟨by omega,a1⟩,a2,zAb0 hjx hm,zAb,if_pos ⟨by omega,c1⟩,c2,zAx (by omega),ih,u64_in _ (by omega),zHT,zYx]
  by_cases hb:b=decide (x<0)
  ·rw [if_neg (by simpa using hb),if_pos ⟨by omega,b1⟩,b2]
   simp only [hb,decide_true,Bool.true_and]
   by_cases q1:l=(zAL x m s.F_Wide).1
   ·rw [if_neg (by simpa using q1)];simp [q1]
   rw [if_pos q1]
   by_cases q3:(zAL x m s.F_Wide).2.1=0
   ·rw [if_pos q3];simp [q1,q3]
   rw [if_neg q3,if_pos ⟨by omega,b1⟩]
   by_cases q2:l=(zAL x m s.F_Wide).1+1
   ·rw [if_neg (by simpa using q2)]
    have q0:¬(zAL x m s.F_Wide).1+1=(zAL x m s.F_Wide).1:=by omega
    simp [q1,q2,q3,q0]
   ·rw [if_pos q2];simp [q1,q2,q3]
  ·rw [if_pos hb];simp [hb]
theorem zAcG {v:List Int} {s:zAc} (hi:I64s v) (hs:Fits s) (hm:mayP s=true) (h2:s.F_Scheme=2):
  zFD v s=some (decide ((zCa v).2=0∧s.F_Dim=(v.length:Int)∧s.F_Scale=zCE v)&&zHT (zCE v) s.F_Wide v s.F_Lev s.F_Neg):=by
 rw [zFD,zAce hi,zAb]
 by_cases he:(zCa v).2≠0
 ·rw [if_pos he,zAb,if_pos rfl,zAb,if_pos rfl,zAb,if_pos rfl,zAb,if_pos rfl];simp [he]
 have he':(zCa v).2=0:=by simpa using he
 obtain ⟨v4,vm,vj⟩:=zOV he'
 rw [if_neg he,zIc hs.S,zAb,zAb,hm,vm]
 simp only [orB,zAb,h2]
 by_cases hd:s.F_Dim=(v.length:Int)
 rotate_left
 ·simp [hd]
 by_cases hc:s.F_Scale=zCE v
 rotate_left
 ·simp [hd,hc]
 have hM:1≤s.F_Wide∧s.F_Wide≤8∧s.F_Lev.length=v.length∧s.F_Neg.length=v.length:=by
  rcases zEL.1 hm with ⟨d0,d1,h,z,y⟩ | ⟨d0,d1,h,c,z,y⟩ | ⟨d0,d1,h,w0,w1,l,x,c,n,z⟩ | ⟨d0,d1,h,c,n,z⟩<;>omega
 have hl:=zXS v s (zCE v) (zCa v).2 hi (by omega) (zRC vj) ⟨hM.1,hM.2.1⟩ v s.F_Lev s.F_Neg 0 rfl rfl rfl hM.2.2.1 hM.2.2.2 (fun x hx=>zPz hx)
 rw [show ((0:Nat):Int)=0 from rfl] at hl
 simp only [Bool.not_true,Bool.or_false,bne_self_eq_false,hd,hc,Bool.false_eq_true,if_false,decide_false]
 rw [show zCa v=(zCE v,(zCa v).2) from by rw [←vm]]
 rw [hl,he']
 by_cases hn:zHT (zCE v) s.F_Wide v s.F_Lev s.F_Neg=true
 ·rw [if_pos hn,zAb];simp [hn]
 ·rw [if_neg hn,zAb];simp [hn]
theorem zAd2 {k:Nat} {v:List Int} {s:zAc} (hi:I64s v) (hk:k≤v.length) (h0:0<v.length) (hv:v.length≤600):
  zGV (k:Int) v s=some (decide ((⟨1,(v.length:Int),zCL k v,(zCL k v).map (at' v),0,0,[],[]⟩:zAc)=s)):=by
 obtain ⟨r,e1,e2⟩:=zYX (k:Int) v hi (.inl hv)
 rw [zKs k v hk h0 (by omega)] at e1
 injection e1 with e1
 subst e1
 have hpl:(zCL k v).length≤4096:=by
  have:=(zK5 (lo:=0) (hi:=(v.length:Int)) (zFL k v) (fun n hn=>by obtain ⟨i,h1,rfl,_⟩:=(zOK k v n).1 hn;omega))
  rcases this with h | h
  ·omega
  ·simp [h]
 rw [zGV,e2,zAb]
 simp only
 rw [if_pos trivial,zSL ⟨by simp only;omega,by simp;omega,by simp,by simp⟩,zAb,zAb]
theorem zAcB {v:List Int} {s:zAc} (hi:I64s v) (hl:v.length≤600) (hd:1≤v.length) (hs:Fits s) (hm:mayP s=true) (h3:s.F_Scheme=3):
  zGP v s=some (decide ((zBS v).2=0∧s.F_Scale=(zBS v).1∧s.F_Neg=v.map fun x=>decide (x<0))):=by
 rw [zGP,zY0 hi (by omega),zAb,zJp]
 by_cases he:(zBS v).2≠0
 ·rw [if_pos he];simp only;rw [if_neg he,zAb];simp [he]
 have he':(zBS v).2=0:=by simpa using he
 rw [if_neg he]
 simp only
 rw [if_pos trivial,zSL ⟨by simp,by simp,by simp,by simp;omega⟩,zAb,zAb]
 congr 1
 rw [decide_eq_decide]
 have hM:s.F_L=[]∧s.F_V=[]∧s.F_Wide=0∧s.F_Lev=[]∧(s.F_Neg.length:Int)=s.F_Dim:=by
  rcases zEL.1 hm with ⟨d0,d1,h,z,y⟩ | ⟨d0,d1,h,c,z,y⟩ | ⟨d0,d1,h,w0,w1,l,x,c,n,z⟩ | ⟨d0,d1,h,c,n,z⟩
  ·omega
  ·omega
  ·omega
  ·exact ⟨z.1,z.2.1,z.2.2.1,z.2.2.2,n⟩
 obtain ⟨s1,s2,s3,s4,s5,s6,s7,s8⟩:=s
 obtain ⟨m1,m2,m3,m4,m5⟩:=hM
 simp only at m1 m2 m3 m4 m5 h3
 subst m1;subst m2;subst m3;subst m4;subst h3
 simp only [zAc.mk.injEq]
 constructor
 ·rintro ⟨_,a,_,_,b,_,_,c⟩;exact ⟨he',b.symm,c.symm⟩
 ·rintro ⟨_,b,c⟩;subst c;simp at m5;exact ⟨trivial,m5,trivial,trivial,b.symm,trivial,trivial,rfl⟩
theorem zYZ {h:zAi} {v:List Int} {s:zAc} (hi:I64s v) (hs:Fits s) (hv:v.length≤600∨4096<v.length∧v.length≤5000):zEW h v s=some (zUE h v s):=by
 rw [zEW,zZf,zAb,zUE]
 by_cases hw:zCZ h (v.length:Int)
 rotate_left
 ·rw [if_neg hw,if_pos (by simp),zAb,if_pos rfl,zAb,if_pos rfl];simp [hw]
 have hv6:v.length≤600:=by have:=hw.1;omega
 rw [if_pos hw,if_neg (by simp),zIc hs.S,zAb,zAb]
 by_cases hm:mayP s=true
 rotate_left
 ·have:mayP s=false:=by simpa using hm
  rw [this,if_pos (show (!false)=true from rfl),zAb,if_pos rfl];simp
 rw [hm,if_neg (show ¬(!true)=true by simp),zAb]
 by_cases he:s.F_Scheme=h.F_Scheme
 rotate_left
 ·rw [if_pos (by simpa using he)];simp [he]
 rw [if_neg (by simpa using he),isP]
 obtain ⟨hd,hw'⟩:=hw
 have hwT:=decide_eq_true (show zCZ h (v.length:Int) from ⟨hd,hw'⟩)
 rw [hwT,decide_eq_true he]
 by_cases c1:h.F_Scheme=1
 ·have hT:=zAd2 (k:=h.F_K.toNat) (v:=v) (s:=s) hi (by omega) (by omega) hv6
  rw [Int.toNat_of_nonneg (by omega)] at hT
  rw [if_pos c1,if_neg (show ¬h.F_Scheme=0 by omega),if_pos c1,hT,zAb];simp
 by_cases c2:h.F_Scheme=2
 ·rw [if_neg c1,if_pos c2,if_neg (show ¬h.F_Scheme=0 by omega),if_neg c1,if_pos c2]
  by_cases cw:s.F_Wide=h.F_Wide
  ·rw [if_pos cw,zAcG hi hs hm (by omega),zAb,zAb];simp [cw]
  ·rw [if_neg cw,zAb];simp [cw]
 by_cases c3:h.F_Scheme=3
 ·rw [if_neg c1,if_neg c2,if_pos c3,if_neg (show ¬h.F_Scheme=0 by omega),if_neg c1,if_neg c2,zAcB hi hv6 (by omega) hs hm (by omega),zAb];simp
 have c0:h.F_Scheme=0:=by omega
 have hV:=hs.S.V
 rw [if_neg c1,if_neg c2,if_neg c3,if_pos c0,zFn _ _ (by omega),zAb]
 simp [eq_comm]
theorem fitV {s:zAc} (h:Fits s):FitV s:=⟨h.S,fun n hn=>h.V n hn,h.Sc⟩
theorem zAa7 {s:zAc} (h:Fits s):∃r,zHY s=some r∧zE0 s=some r:=by
 rw [zHY,zE0,zAd9 (fitV h),zAan (fitV h)]
 exact ⟨_,rfl,rfl⟩
end Go.Proofs.YtdgdgfckcnjpfaaGreat.Abs
