/- Plain facts: vectors pressed, and loosened. Conditions: none. -/
import Derived.Test.YtdgdgfckcnjpfaaGreatPV4
namespace Go.Proofs.YtdgdgfckcnjpfaaGreat.Abs
open Go Go.RowKit Go.IntWalk
set_option linter.unusedVariables false
set_option linter.unusedSimpArgs false
set_option linter.unnecessarySimpa false
set_option maxRecDepth 100000
def zCU (h:zAk) (dim:Int):Prop:=(1≤dim∧dim≤4096)∧((h.F_Scheme=0∧h.F_K=0∧h.F_Wide=0)∨(h.F_Scheme=1∧0≤h.F_K∧h.F_K≤dim∧h.F_Wide=0)∨(h.F_Scheme=2∧h.F_K=0∧0<h.F_Wide∧h.F_Wide≤8)∨(h.F_Scheme=3∧h.F_K=0∧h.F_Wide=0))
instance (h:zAk) (dim:Int):Decidable (zCU h dim):=by unfold zCU;infer_instance
theorem zTU (h:zAk) (d:Int):zF0 h d=some (if zCU h d then 0 else 1):=by
 obtain ⟨s,k,w⟩:=h
 have hb:∀b:Bool,(if b=true then some 1 else some 0:Option Int)=some (if b then 1 else 0):=fun b=>by cases b<;>rfl
 rw [zF0,zDd,zAb]
 by_cases c0:s=0
 ·subst c0
  simp only [hasK,if_pos,zGF,orB,andB,zAb,hb]
  unfold zCU
  by_cases h1:1≤d∧d≤4096<;>by_cases h2:k=0<;>by_cases h3:w=0<;>simp [h1,h2,h3]<;>omega
 by_cases c1:s=1
 ·subst c1
  simp only [hasK,if_pos,zI6,orB,andB,zAb,hb]
  unfold zCU
  by_cases h1:1≤d∧d≤4096<;>by_cases h2:0≤k∧k≤d<;>by_cases h3:w=0<;>simp [h1,h2,h3]<;>omega
 by_cases c2:s=2
 ·subst c2
  simp only [hasK,if_pos,zJr,orB,andB,zAb,hb]
  unfold zCU
  by_cases h1:1≤d∧d≤4096<;>by_cases h2:k=0<;>by_cases h3:0<w∧w≤8<;>simp [h1,h2,h3]<;>omega
 by_cases c3:s=3
 ·subst c3
  simp only [hasK,if_pos,zGF,orB,andB,zAb,hb]
  unfold zCU
  by_cases h1:1≤d∧d≤4096<;>by_cases h2:k=0<;>by_cases h3:w=0<;>simp [h1,h2,h3]<;>omega
 ·simp only [c0,c1,c2,c3,hasK,if_neg,if_false,not_false_eq_true,if_true,orB,zAb]
  have hnw:¬zCU (⟨s,k,w⟩:zAk) d:=by unfold zCU;simp [c0,c1,c2,c3]
  rw [if_neg hnw]
  simp
def zDs (p:zAc×Int):Int×Int×(List Int)×(List Int)×Int×Int×(List Int)×(List Bool)×Int:=(p.1.F_Scheme,p.1.F_Dim,p.1.F_L,p.1.F_V,p.1.F_Scale,p.1.F_Wide,p.1.F_Lev,p.1.F_Neg,p.2)
def zAG (h:zAk) (v:List Int) (seed:Int) (n:List Int):zAc×Int:=
 if 4096<v.length then (zB7,3) else if ¬zCU h (v.length:Int) then (zB7,1)
 else if h.F_Scheme=0 then (⟨0,(v.length:Int),[],v,0,0,[],[]⟩,0)
 else if h.F_Scheme=1 then (⟨1,(v.length:Int),zDo h.F_K.toNat v,(zDo h.F_K.toNat v).map (at' v),0,0,[],[]⟩,0)
 else if h.F_Scheme=2 then (if (zC8 v).2≠0 then (zB7,(zC8 v).2) else (⟨2,(v.length:Int),[],[],zDq v,h.F_Wide,zHQ seed n (zDq v) h.F_Wide 0 v,v.map fun x=>decide (x<0)⟩,0))
 else (if (zCW v).2≠0 then (zB7,(zCW v).2) else (⟨3,(v.length:Int),[],[],(zCW v).1,0,[],v.map fun x=>decide (x<0)⟩,0))
theorem zOO (k:Nat) (v:List Int) (hk:k≤v.length) (h0:0<v.length) (hv:v.length≤4096):zGL (k:Int) v=some (1,(v.length:Int),zDo k v,(zDo k v).map (at' v),0,0,0):=by
 obtain ⟨pk,lk⟩:=zYf k v hk hv
 have hin:∀n∈zDo k v,0≤n∧n<(v.length:Int):=fun n hn=>by obtain ⟨i,h1,rfl,_⟩:=(zQ2 k v n).1 hn;omega
 rw [zGL,if_neg (by omega),pk,zAb]
 simp only
 rw [if_neg (by simp),zZD _ v (by omega) (zIg k v) hin,zAb]
 simp only
 rw [if_neg (by simp)]
theorem zVC {h:zAk} {v:List Int} {seed:Int} {n:List Int} (hi:I64s v) (hn:n.length≤100000):zF3 h v seed n=some (zDs (zAG h v seed n)):=by
 rw [zF3,zOV,zAb,zAG]
 by_cases h4:4096<v.length
 ·rw [if_pos h4,if_pos h4,if_neg (by simp),zAb,if_pos (by simp)];rfl
 rw [if_neg h4,if_neg h4,if_pos rfl,zTU,zAb,zAb]
 by_cases hw:zCU h (v.length:Int)
 ·have hw':¬¬zCU h (v.length:Int):=fun x=>x hw
  rw [if_neg hw',if_pos hw,if_neg (by simp),zDd,zAb]
  obtain ⟨hd,hw⟩:=hw
  by_cases c0:h.F_Scheme=0
  ·rw [if_pos c0,if_pos c0,zKL,zT8 v (by omega)];rfl
  rw [if_neg c0,if_neg c0]
  by_cases c1:h.F_Scheme=1
  ·have hk:0≤h.F_K∧h.F_K≤(v.length:Int):=by omega
   have hT:=zOO h.F_K.toNat v (by omega) (by omega) (by omega)
   rw [Int.toNat_of_nonneg hk.1] at hT
   rw [if_pos c1,if_pos c1,zJi,hT];rfl
  rw [if_neg c1,if_neg c1]
  by_cases c2:h.F_Scheme=2
  ·have hww:1≤h.F_Wide∧h.F_Wide≤8:=by omega
   rw [if_pos c2,if_pos c2,zIH,zZu hi hn,zAb,zAb,zTb,if_neg (by omega)]
   by_cases he:(zC8 v).2≠0
   ·rw [if_pos he,if_pos he];rfl
   ·rw [if_neg he,if_neg he];rfl
  rw [if_neg c2,if_neg c2]
  have c3:h.F_Scheme=3:=by omega
  rw [if_pos c3,zIf,zUh hi (by omega),zAb,zAb,zPY]
  by_cases he:(zCW v).2≠0
  ·rw [if_pos he,if_pos he];rfl
  ·rw [if_neg he,if_neg he];rfl
 ·rw [if_neg hw,if_pos (by simp),if_pos hw];rfl
structure Fits (s:zAc):Prop where
 S:FitS s
 V:I64s s.F_V
 Sc:J64 s.F_Scale
theorem zKQ:Fits zB7:=⟨⟨by simp [zB7],by simp [zB7],by simp [zB7],by simp [zB7],by simp [zB7]⟩,fun n hn=>by simp [zB7] at hn,by simp [zB7,J64]⟩
theorem zSx {h:zAk} {v:List Int} {seed:Int} {n:List Int} (hi:I64s v):Fits (zAG h v seed n).1:=by
 rw [zAG]
 by_cases h4:4096<v.length
 ·rw [if_pos h4];exact zKQ
 rw [if_neg h4]
 by_cases hw:zCU h (v.length:Int)
 ·have hw':¬¬zCU h (v.length:Int):=fun x=>x hw
  rw [if_neg hw']
  obtain ⟨hd,hw⟩:=hw
  by_cases c0:h.F_Scheme=0
  ·rw [if_pos c0];exact ⟨⟨by simp,by simp only;omega,by simp,by simp,by simp⟩,hi,by simp [J64]⟩
  rw [if_neg c0]
  by_cases c1:h.F_Scheme=1
  ·obtain ⟨pk,lk⟩:=zYf h.F_K.toNat v (by omega) (by omega)
   rw [if_pos c1]
   refine ⟨⟨by simp only;omega,by simp only [List.length_map];omega,by simp,by simp,by simp⟩,fun x hx=> ?_,by simp [J64]⟩
   obtain ⟨y,hy,rfl⟩:=List.mem_map.1 hx
   exact zAc7 hi
  rw [if_neg c1]
  by_cases c2:h.F_Scheme=2
  ·have hww:1≤h.F_Wide∧h.F_Wide≤8:=by omega
   rw [if_pos c2]
   by_cases he:(zC8 v).2≠0
   ·rw [if_pos he];exact zKQ
   rw [if_neg he]
   obtain ⟨a1,a2,a3⟩:=zRg (v:=v) (by simpa using he)
   refine ⟨⟨by simp,by simp,by simp only [zPo];omega,by simp only [List.length_map];omega,fun x hx=> ?_⟩,fun x hx=>by simp at hx,zTr a3⟩
   have:=zRm hww v 0 (fun x hx=>zN4 hx) x hx
   have:=zJV hww
   omega
  rw [if_neg c2]
  by_cases he:(zCW v).2≠0
  ·rw [if_pos he];exact zKQ
  rw [if_neg he]
  have:=zQ8 v
  exact ⟨⟨by simp,by simp,by simp,by simp only [List.length_map];omega,by simp⟩,fun x hx=>by simp at hx,by unfold J64;simp only;omega⟩
 ·rw [if_pos hw];exact zKQ
theorem zTQ {w:Int} (h:1≤w∧w≤8) {x:Int} (hx:0≤x):x.toNat<2 ^ w.toNat↔x≤(zA7 w:Int):=by
 unfold zA7
 have:=Nat.two_pow_pos w.toNat
 omega
theorem zAaf {h:zAk} {v:List Int} {seed:Int} {n:List Int} (he:(zAG h v seed n).2≠0):(zAG h v seed n).1=zB7:=by
 unfold zAG at*
 repeat' split at he
 all_goals first
  | exact absurd rfl he
  | skip
 ·rename_i h1;rw [if_pos h1]
 ·rename_i h1 h2;rw [if_neg h1,if_pos h2]
 ·rename_i h1 h2 h3 h4 h5 h6;rw [if_neg h1,if_neg h2,if_neg h3,if_neg h4,if_pos h5,if_pos h6]
 ·rename_i h1 h2 h3 h4 h5 h6;rw [if_neg h1,if_neg h2,if_neg h3,if_neg h4,if_neg h5,if_pos h6]
theorem zTY {h:zAk} {v:List Int} {seed:Int} {n:List Int} (hi:I64s v) (he:(zAG h v seed n).2=0):MayS (zAG h v seed n).1∧(zAG h v seed n).1.F_Scheme=h.F_Scheme∧(zAG h v seed n).1.F_Dim=(v.length:Int)∧zCU h (v.length:Int):=by
 rw [zAG] at*
 by_cases h4:4096<v.length
 ·rw [if_pos h4] at he;simp at he
 rw [if_neg h4] at*
 by_cases hw:zCU h (v.length:Int)
 ·have hw':¬¬zCU h (v.length:Int):=fun x=>x hw
  rw [if_neg hw'] at*
  have hww:=hw
  obtain ⟨hd,hw⟩:=hw
  by_cases c0:h.F_Scheme=0
  ·rw [if_pos c0];exact ⟨.dense (by simp only;omega) (by simp only;omega) rfl rfl (by simp),c0.symm,rfl,hww⟩
  rw [if_neg c0] at*
  by_cases c1:h.F_Scheme=1
  ·have hin:∀n∈zDo h.F_K.toNat v,0≤n∧n<(v.length:Int):=fun n hn=>by obtain ⟨i,h1,rfl,_⟩:=(zQ2 h.F_K.toNat v n).1 hn;omega
   rw [if_pos c1]
   refine ⟨.top (by simp only;omega) (by simp only;omega) rfl (zH8.2 ⟨?_,zIg _ v,hin⟩) (by simp) (by simp),c1.symm,rfl,hww⟩
   simp only [meas,Bool.and_eq_true,decide_eq_true_eq];omega
  rw [if_neg c1] at*
  by_cases c2:h.F_Scheme=2
  ·have hw8:1≤h.F_Wide∧h.F_Wide≤8:=by omega
   rw [if_pos c2] at*
   by_cases he2:(zC8 v).2≠0
   ·rw [if_pos he2] at he;exact absurd he he2
   rw [if_neg he2]
   refine ⟨.level (by simp only;omega) (by simp only;omega) rfl (by simp only;omega) (by simp only;omega) (by simp only [zPo]) (fun x hx=> ?_) (zAcp v) (by simp) (by simp),c2.symm,rfl,hww⟩
   have:=zRm hw8 v 0 (fun x hx=>zN4 hx) x hx
   exact (zTQ hw8 this.1).2 this.2
  rw [if_neg c2] at*
  by_cases he2:(zCW v).2≠0
  ·rw [if_pos he2] at he;exact absurd he he2
  rw [if_neg he2]
  exact ⟨.sign (by simp only;omega) (by simp only;omega) rfl (zQ8 v).1 (by simp) (by simp),by simp only;omega,rfl,hww⟩
 ·rw [if_pos hw] at he;simp at he
def valQ (m w:Int) (l:Int) (b:Bool):Int:=if b then 0-(zGE l m w).1 else (zGE l m w).1
def zVb (m:Int) (b:Bool):Int:=if b then 0-m else m
def zEx (s:zAc):List Int:=
 if s.F_Scheme=0 then s.F_V else if s.F_Scheme=1 then zD1 (List.replicate s.F_Dim.toNat 0) s.F_L s.F_V
 else if s.F_Scheme=2 then List.zipWith (valQ s.F_Scale s.F_Wide) s.F_Lev s.F_Neg else s.F_Neg.map (zVb s.F_Scale)
def zGi (s:zAc):List Int×Int:=if mayP s then (zEx s,0) else ([],1)
theorem zAdr {m w l:Int} {b:Bool} (hw:1≤w∧w≤8) (hm:0≤m) (hj:J64 m):J64 (valQ m w l b):=by
 have h:0≤(zGE l m w).1∧(zGE l m w).1≤m:=by
  unfold zGE
  split
  ·rename_i hc;exact ⟨Int.natCast_nonneg _,zWo hw hm hc.2.2⟩
  ·simp [hm]
 unfold valQ J64 at*
 split<;>omega
theorem zZh (s:zAc) (hf:Fits s) (hm:MayS s) (h2:s.F_Scheme=2):∀(t:List Int) (u:List Bool) (k:Nat) (pre:List Int),s.F_Lev.drop k=t→s.F_Neg.drop k=u→pre.length=k→
  zBY s (k:Int) (pre++List.replicate t.length 0)=some (.inr (pre++List.zipWith (valQ s.F_Scale s.F_Wide) t u)):=by
 have hM:0<s.F_Wide∧s.F_Wide≤8∧s.F_Lev.length=s.F_Neg.length∧0≤s.F_Scale∧s.F_Lev.length≤4096∧∀n∈s.F_Lev,n.toNat<2 ^ s.F_Wide.toNat:=by
  rcases hm with ⟨d0,d1,h,v,z⟩ | ⟨d0,d1,h,c,v,z⟩ | ⟨d0,d1,h,w0,w1,l,x,c,n,z⟩ | ⟨d0,d1,h,c,n,z⟩
  ·omega
  ·omega
  ·exact ⟨w0,w1,by omega,c,by omega,x⟩
  ·omega
 obtain ⟨w0,w1,hl,c0,l4,hx⟩:=hM
 intro t
 induction t with
 | nil=>intro u k pre h1 h3 h4;rw [zBY,if_neg (zAI h1)];simp
 | cons x t ih=>
  intro u k pre h1 h3 h4
  have g1:=zAm h1
  have hx':x∈s.F_Lev:=by
   have:x∈s.F_Lev.drop k:=by rw [h1];simp
   exact List.mem_of_mem_drop this
  cases u with
  | nil=>
   have:=List.drop_eq_nil_iff.1 h3
   omega
  | cons b u=>
   have g2:=zAm h3
   have hu:=hf.S.u x hx'
   have hle:=(zTQ (w:=s.F_Wide) (by omega) hu.1).1 (hx x hx')
   have hv:=zWo (w:=s.F_Wide) (m:=s.F_Scale) (l:=x) (by omega) c0 hle
   have hsc:=hf.Sc
   have e:zGE x s.F_Scale s.F_Wide=(((s.F_Scale.toNat*x.toNat/zA7 s.F_Wide:Nat):Int),0):=by rw [zGE,if_pos ⟨by omega,c0,hle⟩]
   rw [zBY,if_pos g1.1,if_pos (by omega),g1.2.1,zAbC hu hsc,zAb,if_neg (by rw [e];simp),if_pos (by simp;omega),List.length_cons,List.replicate_succ,zPJ h4,zAb,if_pos (by omega),g2.2.1,zA6 (by omega)]
   have ih':=ih u (k+1) (pre++[valQ s.F_Scale s.F_Wide x b]) g1.2.2 g2.2.2 (by simp [h4])
   simp only [List.append_assoc,List.singleton_append] at ih'
   cases b with
   | true=>
    rw [if_pos rfl,if_pos (by simp;omega),zPJ h4,zAb]
    have e2:IntKind.i64.wrap (0-(zGE x s.F_Scale s.F_Wide).1)=valQ s.F_Scale s.F_Wide x true:=by
     rw [valQ,if_pos rfl]
     refine zOr ?_
     rw [e]
     generalize s.F_Scale.toNat*x.toNat/zA7 s.F_Wide=z at hv⊢
     unfold J64 at*;simp only;omega
    rw [e2,ih'];simp
   | false=>
    rw [if_neg (by simp)]
    have e2:(zGE x s.F_Scale s.F_Wide).1=valQ s.F_Scale s.F_Wide x false:=by rw [valQ,if_neg (by simp)]
    rw [e2,ih'];simp
theorem zSN (l:List Bool) (a1 a2:Int) (a3 a4:List Int) (m:Int) (a6:Int) (a7:List Int) (a8:List Bool) (hl:l.length≤1000000) (hm:0≤m) (hj:J64 m):∀(t:List Bool) (k:Nat) (acc:List Int),l.drop k=t→acc.length≤k→
  zAy l a1 a2 a3 a4 m a6 a7 a8 (k:Int) acc=some (acc++t.map (zVb m))
 | [],k,acc,h1,h2=>by rw [zAy,if_neg (zAI h1)];simp
 | x::t,k,acc,h1,h2=>by
  have g1:=zAm h1
  have e:zE8 x a1 a2 a3 a4 m a6 a7 a8=some (zVb m x):=by
   rw [zE8]
   cases x with
   | true=>rw [if_pos rfl,zOr (by unfold J64 at*;omega)];rfl
   | false=>rw [if_neg (by simp)];rfl
  rw [zAy,if_pos g1.1,if_pos (by omega),g1.2.1,e,zAb,if_pos (zJv (by simp;omega)),zA6 (by omega),zSN l a1 a2 a3 a4 m a6 a7 a8 hl hm hj t (k+1) _ g1.2.2 (by simp;omega)]
  simp
theorem zT4 {s:zAc} (hf:Fits s):zFi s=some (zGi s):=by
 rw [zFi,zJX hf.S,zAb,zGi]
 cases hmp:mayP s with
 | false=>rw [if_pos rfl];rfl
 | true=>
 have hm:=zEz.1 hmp
 rw [if_neg (by simp),zDd,zAb,zEx,if_pos rfl]
 rcases hm with ⟨d0,d1,h,v,z⟩ | ⟨d0,d1,h,c,v,z⟩ | ⟨d0,d1,h,w0,w1,l,x,c,n,z⟩ | ⟨d0,d1,h,c,n,z⟩
 ·rw [if_pos h,if_pos h,zIT,zT8 _ (by omega)];rfl
 ·have n0:¬s.F_Scheme=0:=by omega
  rw [if_neg n0,if_neg n0,if_pos h,if_pos h,zIN,zZZ _ _ _ hf.S.L c v];rfl
 ·have hL:=zZh s hf (.level d0 d1 h w0 w1 l x c n z) h s.F_Lev s.F_Neg 0 [] rfl rfl rfl
  rw [show ((0:Nat):Int)=0 from rfl] at hL
  simp only [List.nil_append] at hL
  have hd:s.F_Dim.toNat=s.F_Lev.length:=by omega
  have n0:¬s.F_Scheme=0:=by omega
  have n1:¬s.F_Scheme=1:=by omega
  rw [if_neg n0,if_neg n0,if_neg n1,if_neg n1,if_pos h,if_pos h,zIL,zJX hf.S,zAb,hmp,orB]
  rw [show (decide (true=false)||(s.F_Scheme !=2))=false by simp [h],if_neg Bool.false_ne_true,if_pos (by omega),zAb,hd,hL]
  rfl
 ·have hL:=zSN s.F_Neg s.F_Scheme s.F_Dim s.F_L s.F_V s.F_Scale s.F_Wide s.F_Lev s.F_Neg (by omega) c hf.Sc s.F_Neg 0 [] rfl (by simp)
  rw [show ((0:Nat):Int)=0 from rfl] at hL
  simp only [List.nil_append] at hL
  have n0:¬s.F_Scheme=0:=by omega
  have n1:¬s.F_Scheme=1:=by omega
  have n2:¬s.F_Scheme=2:=by omega
  rw [if_neg n0,if_neg n0,if_neg n1,if_neg n1,if_neg n2,if_neg n2,if_pos h,zKJ,zJX hf.S,zAb,hmp,orB]
  rw [show (decide (true=false)||(s.F_Scheme !=3))=false by simp [h],if_neg Bool.false_ne_true,zCf,if_pos (by omega),zAb,show List.replicate (Int.toNat 0) (0:Int)=[] from rfl,hL]
  rfl
theorem zUi:∀(l a out:List Int),I64s a→I64s out→I64s (zD1 out l a)
 | [],a,out,h1,h2=>by simpa [zD1] using h2
 | x::l,[],out,h1,h2=>by simpa [zD1] using h2
 | x::l,y::a,out,h1,h2=>by
  rw [zD1]
  refine zUi l a _ (fun n hn=>h1 n (by simp [hn])) fun n hn=> ?_
  rcases List.mem_or_eq_of_mem_set hn with h | h
  ·exact h2 n h
  ·rw [h];exact h1 y (by simp)
theorem zW4 {s:zAc} (hf:Fits s):I64s (zGi s).1:=by
 unfold zGi
 split
 ·rename_i hmp
  have hm:=zEz.1 hmp
  simp only
  rw [zEx]
  rcases hm with ⟨d0,d1,h,v,z⟩ | ⟨d0,d1,h,c,v,z⟩ | ⟨d0,d1,h,w0,w1,l,x,c,n,z⟩ | ⟨d0,d1,h,c,n,z⟩
  ·rw [if_pos h];exact hf.V
  ·rw [if_neg (by omega),if_pos h]
   refine zUi _ _ _ hf.V fun n hn=> ?_
   rw [(List.mem_replicate.1 hn).2];omega
  ·rw [if_neg (by omega),if_neg (by omega),if_pos h]
   intro n hn
   obtain ⟨i,h1,h2⟩:=List.mem_iff_getElem.1 hn
   rw [List.getElem_zipWith] at h2
   rw [←h2];exact zAdr (by omega) c hf.Sc
  ·rw [if_neg (by omega),if_neg (by omega),if_neg (by omega)]
   intro n hn
   obtain ⟨b,hb,rfl⟩:=List.mem_map.1 hn
   have:=hf.Sc
   unfold J64 at this
   unfold zVb
   split<;>omega
 ·intro n hn;simp at hn
def zJA (v:List Int) (s:zAc):List Int×Int:=if (zGi s).2≠0 then ([],(zGi s).2) else vecP (·-·) v (zGi s).1
theorem zYu {v:List Int} {s:zAc} (hi:I64s v) (hf:Fits s):zGK v s=some (zJA v s):=by
 rw [zGK,zT4 hf,zAb,zJA]
 by_cases h:(zGi s).2≠0
 ·rw [if_pos h,if_pos h]
 ·rw [if_neg h,if_neg h,zAcB hi (zW4 hf)];rfl
theorem zAdo {v:List Int} {s:zAc}:I64s (zJA v s).1:=by
 unfold zJA
 split
 ·intro n hn;simp at hn
 ·exact zTP
def zZB (p:zAc×List Int×Int):Int×Int×(List Int)×(List Int)×Int×Int×(List Int)×(List Bool)×(List Int)×Int:=(p.1.F_Scheme,p.1.F_Dim,p.1.F_L,p.1.F_V,p.1.F_Scale,p.1.F_Wide,p.1.F_Lev,p.1.F_Neg,p.2.1,p.2.2)
def zVx (h:zAk) (g left:List Int) (seed:Int) (n:List Int):zAc×List Int×Int:=
 if (vecP (·+·) g left).2≠0 then (zB7,[],(vecP (·+·) g left).2)
 else if (zAG h (vecP (·+·) g left).1 seed n).2≠0 then (zB7,[],(zAG h (vecP (·+·) g left).1 seed n).2)
 else if (zJA (vecP (·+·) g left).1 (zAG h (vecP (·+·) g left).1 seed n).1).2≠0 then (zB7,[],(zJA (vecP (·+·) g left).1 (zAG h (vecP (·+·) g left).1 seed n).1).2)
 else ((zAG h (vecP (·+·) g left).1 seed n).1,(zJA (vecP (·+·) g left).1 (zAG h (vecP (·+·) g left).1 seed n).1).1,0)
theorem zAbR {h:zAk} {g left:List Int} {seed:Int} {n:List Int} (hg:I64s g) (hl:I64s left) (hn:n.length≤100000):zHk h g left seed n=some (zZB (zVx h g left seed n)):=by
 have hJ:I64s (vecP (·+·) g left).1:=zTP
 rw [zHk,zXN hg hl,zAb,zVx]
 by_cases h1:(vecP (·+·) g left).2≠0
 ·rw [if_pos h1,if_neg h1,zAb]
  simp only
  rw [if_neg h1,if_pos h1];rfl
 rw [if_neg h1,if_pos (by simpa using h1),zVC hJ hn,zAb,zAb]
 simp only
 by_cases h2:(zAG h (vecP (·+·) g left).1 seed n).2≠0
 ·rw [if_pos h2,show (zDs (zAG h (vecP (·+·) g left).1 seed n)).2.2.2.2.2.2.2.2=(zAG h (vecP (·+·) g left).1 seed n).2 from rfl,if_neg h2,if_pos h2];rfl
 rw [if_neg h2,show (zDs (zAG h (vecP (·+·) g left).1 seed n)).2.2.2.2.2.2.2.2=(zAG h (vecP (·+·) g left).1 seed n).2 from rfl,if_pos (by simpa using h2)]
 have hL:=zYu (v:=(vecP (·+·) g left).1) (s:=(zAG h (vecP (·+·) g left).1 seed n).1) hJ (zSx hJ)
 rw [show (⟨(zDs (zAG h (vecP (·+·) g left).1 seed n)).1,(zDs (zAG h (vecP (·+·) g left).1 seed n)).2.1,(zDs (zAG h (vecP (·+·) g left).1 seed n)).2.2.1,(zDs (zAG h (vecP (·+·) g left).1 seed n)).2.2.2.1,(zDs (zAG h (vecP (·+·) g left).1 seed n)).2.2.2.2.1,(zDs (zAG h (vecP (·+·) g left).1 seed n)).2.2.2.2.2.1,(zDs (zAG h (vecP (·+·) g left).1 seed n)).2.2.2.2.2.2.1,(zDs (zAG h (vecP (·+·) g left).1 seed n)).2.2.2.2.2.2.2.1⟩:zAc)=(zAG h (vecP (·+·) g left).1 seed n).1 from rfl,hL,zAb]
 by_cases h3:(zJA (vecP (·+·) g left).1 (zAG h (vecP (·+·) g left).1 seed n).1).2≠0
 ·rw [if_pos h3,if_pos h3];rfl
 ·rw [if_neg h3,if_neg h3];rfl
end Go.Proofs.YtdgdgfckcnjpfaaGreat.Abs
