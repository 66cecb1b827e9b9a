/- Plain facts: vectors pressed, and loosened. Conditions: none. -/
import Derived.Test.YtdgdgfckcnjpfaaGreatPV4
namespace Go.Proofs.YtdgdgfckcnjpfaaGreat.Abs
open Go Go.RowKit Go.IntWalk
set_option linter.unusedVariables false
set_option linter.unusedSimpArgs false
set_option linter.unnecessarySimpa false
set_option maxRecDepth 100000
def zCZ (h:zAi) (dim:Int):Prop:=(1≤dim∧dim≤4096)∧((h.F_Scheme=0∧h.F_K=0∧h.F_Wide=0)∨(h.F_Scheme=1∧0≤h.F_K∧h.F_K≤dim∧h.F_Wide=0)∨(h.F_Scheme=2∧h.F_K=0∧0<h.F_Wide∧h.F_Wide≤8)∨(h.F_Scheme=3∧h.F_K=0∧h.F_Wide=0))
instance (h:zAi) (dim:Int):Decidable (zCZ h dim):=by unfold zCZ;infer_instance
theorem zWB (h:zAi) (d:Int):zGn h d=some (if zCZ h d then 0 else 1):=by
 obtain ⟨s,k,w⟩:=h
 have hb:∀b:Bool,(if b=true then some 1 else some 0:Option Int)=some (if b then 1 else 0):=fun b=>by cases b<;>rfl
 rw [zGn,zC4,zAb]
 by_cases c0:s=0
 ·subst c0
  simp only [hasK,if_pos,zHe,orB,andB,zAb,hb]
  unfold zCZ
  by_cases h1:1≤d∧d≤4096<;>by_cases h2:k=0<;>by_cases h3:w=0<;>simp [h1,h2,h3]<;>omega
 by_cases c1:s=1
 ·subst c1
  simp only [hasK,if_pos,zI4,orB,andB,zAb,hb]
  unfold zCZ
  by_cases h1:1≤d∧d≤4096<;>by_cases h2:0≤k∧k≤d<;>by_cases h3:w=0<;>simp [h1,h2,h3]<;>omega
 by_cases c2:s=2
 ·subst c2
  simp only [hasK,if_pos,zJo,orB,andB,zAb,hb]
  unfold zCZ
  by_cases h1:1≤d∧d≤4096<;>by_cases h2:k=0<;>by_cases h3:0<w∧w≤8<;>simp [h1,h2,h3]<;>omega
 by_cases c3:s=3
 ·subst c3
  simp only [hasK,if_pos,zHe,orB,andB,zAb,hb]
  unfold zCZ
  by_cases h1:1≤d∧d≤4096<;>by_cases h2:k=0<;>by_cases h3:w=0<;>simp [h1,h2,h3]<;>omega
 ·simp only [c0,c1,c2,c3,hasK,if_neg,if_false,not_false_eq_true,if_true,orB,zAb]
  have hnw:¬zCZ (⟨s,k,w⟩:zAi) d:=by unfold zCZ;simp [c0,c1,c2,c3]
  rw [if_neg hnw]
  simp
def zIB (p:zAc×Int):Int×Int×(List Int)×(List Int)×Int×Int×(List Int)×(List Bool)×Int:=(p.1.F_Scheme,p.1.F_Dim,p.1.F_L,p.1.F_V,p.1.F_Scale,p.1.F_Wide,p.1.F_Lev,p.1.F_Neg,p.2)
def zBO (h:zAi) (v:List Int) (seed:Int) (n:List Int):zAc×Int:=
 if 4096<v.length then (zCb,3) else if ¬zCZ h (v.length:Int) then (zCb,1)
 else if h.F_Scheme=0 then (⟨0,(v.length:Int),[],v,0,0,[],[]⟩,0)
 else if h.F_Scheme=1 then (⟨1,(v.length:Int),zCL h.F_K.toNat v,(zCL h.F_K.toNat v).map (at' v),0,0,[],[]⟩,0)
 else if h.F_Scheme=2 then (if (zCa v).2≠0 then (zCb,(zCa v).2) else (⟨2,(v.length:Int),[],[],zCE v,h.F_Wide,zLo seed n (zCE v) h.F_Wide 0 v,v.map fun x=>decide (x<0)⟩,0))
 else (if (zBS v).2≠0 then (zCb,(zBS v).2) else (⟨3,(v.length:Int),[],[],(zBS v).1,0,[],v.map fun x=>decide (x<0)⟩,0))
theorem zKs (k:Nat) (v:List Int) (hk:k≤v.length) (h0:0<v.length) (hv:v.length≤4096):zDF (k:Int) v=some (1,(v.length:Int),zCL k v,(zCL k v).map (at' v),0,0,0):=by
 obtain ⟨pk,lk⟩:=zVL k v hk hv
 have hin:∀n∈zCL k v,0≤n∧n<(v.length:Int):=fun n hn=>by obtain ⟨i,h1,rfl,_⟩:=(zOK k v n).1 hn;omega
 rw [zDF,if_neg (by omega),pk,zAb]
 simp only
 rw [if_neg (by simp),zWt _ v (by omega) (zFL k v) hin,zAb]
 simp only
 rw [if_neg (by simp)]
theorem zAc4 {h:zAi} {v:List Int} {seed:Int} {n:List Int} (hi:I64s v) (hn:n.length≤100000):zHU h v seed n=some (zIB (zBO h v seed n)):=by
 rw [zHU,zQP,zAb,zBO]
 by_cases h4:4096<v.length
 ·rw [if_pos h4,if_pos h4,if_neg (by simp),zAb,if_pos (by simp)];rfl
 rw [if_neg h4,if_neg h4,if_pos rfl,zWB,zAb,zAb]
 by_cases hw:zCZ h (v.length:Int)
 ·have hw':¬¬zCZ h (v.length:Int):=fun x=>x hw
  rw [if_neg hw',if_pos hw,if_neg (by simp),zC4,zAb]
  obtain ⟨hd,hw⟩:=hw
  by_cases c0:h.F_Scheme=0
  ·rw [if_pos c0,if_pos c0,zKG,zWo v (by omega)];rfl
  rw [if_neg c0,if_neg c0]
  by_cases c1:h.F_Scheme=1
  ·have hk:0≤h.F_K∧h.F_K≤(v.length:Int):=by omega
   have hT:=zKs h.F_K.toNat v (by omega) (by omega) (by omega)
   rw [Int.toNat_of_nonneg hk.1] at hT
   rw [if_pos c1,if_pos c1,zJn,hT];rfl
  rw [if_neg c1,if_neg c1]
  by_cases c2:h.F_Scheme=2
  ·have hww:1≤h.F_Wide∧h.F_Wide≤8:=by omega
   rw [if_pos c2,if_pos c2,zJC,zAbK hi hn,zAb,zAb,zVA,if_neg (by omega)]
   by_cases he:(zCa v).2≠0
   ·rw [if_pos he,if_pos he];rfl
   ·rw [if_neg he,if_neg he];rfl
  rw [if_neg c2,if_neg c2]
  have c3:h.F_Scheme=3:=by omega
  rw [if_pos c3,zIH,zWE hi (by omega),zAb,zAb,zJp]
  by_cases he:(zBS v).2≠0
  ·rw [if_pos he,if_pos he];rfl
  ·rw [if_neg he,if_neg he];rfl
 ·rw [if_neg hw,if_pos (by simp),if_pos hw];rfl
structure Fits (s:zAc):Prop where
 S:FitS s
 V:I64s s.F_V
 Sc:J64 s.F_Scale
theorem zKX:Fits zCb:=⟨⟨by simp [zCb],by simp [zCb],by simp [zCb],by simp [zCb],by simp [zCb]⟩,fun n hn=>by simp [zCb] at hn,by simp [zCb,J64]⟩
theorem zAa6 {h:zAi} {v:List Int} {seed:Int} {n:List Int} (hi:I64s v):Fits (zBO h v seed n).1:=by
 rw [zBO]
 by_cases h4:4096<v.length
 ·rw [if_pos h4];exact zKX
 rw [if_neg h4]
 by_cases hw:zCZ h (v.length:Int)
 ·have hw':¬¬zCZ h (v.length:Int):=fun x=>x hw
  rw [if_neg hw']
  obtain ⟨hd,hw⟩:=hw
  by_cases c0:h.F_Scheme=0
  ·rw [if_pos c0];exact ⟨⟨by simp,by simp only;omega,by simp,by simp,by simp⟩,hi,by simp [J64]⟩
  rw [if_neg c0]
  by_cases c1:h.F_Scheme=1
  ·obtain ⟨pk,lk⟩:=zVL h.F_K.toNat v (by omega) (by omega)
   rw [if_pos c1]
   refine ⟨⟨by simp only;omega,by simp only [List.length_map];omega,by simp,by simp,by simp⟩,fun x hx=> ?_,by simp [J64]⟩
   obtain ⟨y,hy,rfl⟩:=List.mem_map.1 hx
   exact zX6 hi
  rw [if_neg c1]
  by_cases c2:h.F_Scheme=2
  ·have hww:1≤h.F_Wide∧h.F_Wide≤8:=by omega
   rw [if_pos c2]
   by_cases he:(zCa v).2≠0
   ·rw [if_pos he];exact zKX
   rw [if_neg he]
   obtain ⟨a1,a2,a3⟩:=zOV (v:=v) (by simpa using he)
   refine ⟨⟨by simp,by simp,by simp only [zV4];omega,by simp only [List.length_map];omega,fun x hx=> ?_⟩,fun x hx=>by simp at hx,zRC a3⟩
   have:=zYK hww v 0 (fun x hx=>zPz hx) x hx
   have:=zHj hww
   omega
  rw [if_neg c2]
  by_cases he:(zBS v).2≠0
  ·rw [if_pos he];exact zKX
  rw [if_neg he]
  have:=zTx v
  exact ⟨⟨by simp,by simp,by simp,by simp only [List.length_map];omega,by simp⟩,fun x hx=>by simp at hx,by unfold J64;simp only;omega⟩
 ·rw [if_pos hw];exact zKX
theorem zWv {w:Int} (h:1≤w∧w≤8) {x:Int} (hx:0≤x):x.toNat<2 ^ w.toNat↔x≤(zAH w:Int):=by
 unfold zAH
 have:=Nat.two_pow_pos w.toNat
 omega
def valQ (m w:Int) (l:Int) (b:Bool):Int:=if b then 0-(zDz l m w).1 else (zDz l m w).1
def zPt (m:Int) (b:Bool):Int:=if b then 0-m else m
def zLv (s:zAc):List Int:=
 if s.F_Scheme=0 then s.F_V else if s.F_Scheme=1 then zDP (List.replicate s.F_Dim.toNat 0) s.F_L s.F_V
 else if s.F_Scheme=2 then List.zipWith (valQ s.F_Scale s.F_Wide) s.F_Lev s.F_Neg else s.F_Neg.map (zPt s.F_Scale)
def zCH (s:zAc):List Int×Int:=if mayP s then (zLv s,0) else ([],1)
theorem zAeq {m w l:Int} {b:Bool} (hw:1≤w∧w≤8) (hm:0≤m) (hj:J64 m):J64 (valQ m w l b):=by
 have h:0≤(zDz l m w).1∧(zDz l m w).1≤m:=by
  unfold zDz
  split
  ·rename_i hc;exact ⟨Int.natCast_nonneg _,zQU hw hm hc.2.2⟩
  ·simp [hm]
 unfold valQ J64 at*
 split<;>omega
theorem zAa2 (s:zAc) (hf:Fits s) (hm:MayS s) (h2:s.F_Scheme=2):∀(t:List Int) (u:List Bool) (k:Nat) (pre:List Int),s.F_Lev.drop k=t→s.F_Neg.drop k=u→pre.length=k→
  zBZ s (k:Int) (pre++List.replicate t.length 0)=some (.inr (pre++List.zipWith (valQ s.F_Scale s.F_Wide) t u)):=by
 have hM:0<s.F_Wide∧s.F_Wide≤8∧s.F_Lev.length=s.F_Neg.length∧0≤s.F_Scale∧s.F_Lev.length≤4096∧∀n∈s.F_Lev,n.toNat<2 ^ s.F_Wide.toNat:=by
  rcases hm with ⟨d0,d1,h,v,z⟩ | ⟨d0,d1,h,c,v,z⟩ | ⟨d0,d1,h,w0,w1,l,x,c,n,z⟩ | ⟨d0,d1,h,c,n,z⟩
  ·omega
  ·omega
  ·exact ⟨w0,w1,by omega,c,by omega,x⟩
  ·omega
 obtain ⟨w0,w1,hl,c0,l4,hx⟩:=hM
 intro t
 induction t with
 | nil=>intro u k pre h1 h3 h4;rw [zBZ,if_neg (zAp h1)];simp
 | cons x t ih=>
  intro u k pre h1 h3 h4
  have g1:=zAh h1
  have hx':x∈s.F_Lev:=by
   have:x∈s.F_Lev.drop k:=by rw [h1];simp
   exact List.mem_of_mem_drop this
  cases u with
  | nil=>
   have:=List.drop_eq_nil_iff.1 h3
   omega
  | cons b u=>
   have g2:=zAh h3
   have hu:=hf.S.u x hx'
   have hle:=(zWv (w:=s.F_Wide) (by omega) hu.1).1 (hx x hx')
   have hv:=zQU (w:=s.F_Wide) (m:=s.F_Scale) (l:=x) (by omega) c0 hle
   have hsc:=hf.Sc
   have e:zDz x s.F_Scale s.F_Wide=(((s.F_Scale.toNat*x.toNat/zAH s.F_Wide:Nat):Int),0):=by rw [zDz,if_pos ⟨by omega,c0,hle⟩]
   rw [zBZ,if_pos g1.1,if_pos (by omega),g1.2.1,zAcw hu hsc,zAb,if_neg (by rw [e];simp),if_pos (by simp;omega),List.length_cons,List.replicate_succ,zRq h4,zAb,if_pos (by omega),g2.2.1,zAx (by omega)]
   have ih':=ih u (k+1) (pre++[valQ s.F_Scale s.F_Wide x b]) g1.2.2 g2.2.2 (by simp [h4])
   simp only [List.append_assoc,List.singleton_append] at ih'
   cases b with
   | true=>
    rw [if_pos rfl,if_pos (by simp;omega),zRq h4,zAb]
    have e2:IntKind.i64.wrap (0-(zDz x s.F_Scale s.F_Wide).1)=valQ s.F_Scale s.F_Wide x true:=by
     rw [valQ,if_pos rfl]
     refine zI5 ?_
     rw [e]
     generalize s.F_Scale.toNat*x.toNat/zAH s.F_Wide=z at hv⊢
     unfold J64 at*;simp only;omega
    rw [e2,ih'];simp
   | false=>
    rw [if_neg (by simp)]
    have e2:(zDz x s.F_Scale s.F_Wide).1=valQ s.F_Scale s.F_Wide x false:=by rw [valQ,if_neg (by simp)]
    rw [e2,ih'];simp
theorem zUn (l:List Bool) (a1 a2:Int) (a3 a4:List Int) (m:Int) (a6:Int) (a7:List Int) (a8:List Bool) (hl:l.length≤1000000) (hm:0≤m) (hj:J64 m):∀(t:List Bool) (k:Nat) (acc:List Int),l.drop k=t→acc.length≤k→
  zAA l a1 a2 a3 a4 m a6 a7 a8 (k:Int) acc=some (acc++t.map (zPt m))
 | [],k,acc,h1,h2=>by rw [zAA,if_neg (zAp h1)];simp
 | x::t,k,acc,h1,h2=>by
  have g1:=zAh h1
  have e:zFB x a1 a2 a3 a4 m a6 a7 a8=some (zPt m x):=by
   rw [zFB]
   cases x with
   | true=>rw [if_pos rfl,zI5 (by unfold J64 at*;omega)];rfl
   | false=>rw [if_neg (by simp)];rfl
  rw [zAA,if_pos g1.1,if_pos (by omega),g1.2.1,e,zAb,if_pos (zEy (by simp;omega)),zAx (by omega),zUn l a1 a2 a3 a4 m a6 a7 a8 hl hm hj t (k+1) _ g1.2.2 (by simp;omega)]
  simp
theorem zWc {s:zAc} (hf:Fits s):zEc s=some (zCH s):=by
 rw [zEc,zL5 hf.S,zAb,zCH]
 cases hmp:mayP s with
 | false=>rw [if_pos rfl];rfl
 | true=>
 have hm:=zEL.1 hmp
 rw [if_neg (by simp),zC4,zAb,zLv,if_pos rfl]
 rcases hm with ⟨d0,d1,h,v,z⟩ | ⟨d0,d1,h,c,v,z⟩ | ⟨d0,d1,h,w0,w1,l,x,c,n,z⟩ | ⟨d0,d1,h,c,n,z⟩
 ·rw [if_pos h,if_pos h,zJh,zWo _ (by omega)];rfl
 ·have n0:¬s.F_Scheme=0:=by omega
  rw [if_neg n0,if_neg n0,if_pos h,if_pos h,zI2,zAbR _ _ _ hf.S.L c v];rfl
 ·have hL:=zAa2 s hf (.level d0 d1 h w0 w1 l x c n z) h s.F_Lev s.F_Neg 0 [] rfl rfl rfl
  rw [show ((0:Nat):Int)=0 from rfl] at hL
  simp only [List.nil_append] at hL
  have hd:s.F_Dim.toNat=s.F_Lev.length:=by omega
  have n0:¬s.F_Scheme=0:=by omega
  have n1:¬s.F_Scheme=1:=by omega
  rw [if_neg n0,if_neg n0,if_neg n1,if_neg n1,if_pos h,if_pos h,zJw,zL5 hf.S,zAb,hmp,orB]
  rw [show (decide (true=false)||(s.F_Scheme !=2))=false by simp [h],if_neg Bool.false_ne_true,if_pos (by omega),zAb,hd,hL]
  rfl
 ·have hL:=zUn s.F_Neg s.F_Scheme s.F_Dim s.F_L s.F_V s.F_Scale s.F_Wide s.F_Lev s.F_Neg (by omega) c hf.Sc s.F_Neg 0 [] rfl (by simp)
  rw [show ((0:Nat):Int)=0 from rfl] at hL
  simp only [List.nil_append] at hL
  have n0:¬s.F_Scheme=0:=by omega
  have n1:¬s.F_Scheme=1:=by omega
  have n2:¬s.F_Scheme=2:=by omega
  rw [if_neg n0,if_neg n0,if_neg n1,if_neg n1,if_neg n2,if_neg n2,if_pos h,zKB,zL5 hf.S,zAb,hmp,orB]
  rw [show (decide (true=false)||(s.F_Scheme !=3))=false by simp [h],if_neg Bool.false_ne_true,zCv,if_pos (by omega),zAb,show List.replicate (Int.toNat 0) (0:Int)=[] from rfl,hL]
  rfl
theorem zWq:∀(l a out:List Int),I64s a→I64s out→I64s (zDP out l a)
 | [],a,out,h1,h2=>by simpa [zDP] using h2
 | x::l,[],out,h1,h2=>by simpa [zDP] using h2
 | x::l,y::a,out,h1,h2=>by
  rw [zDP]
  refine zWq l a _ (fun n hn=>h1 n (by simp [hn])) fun n hn=> ?_
  rcases List.mem_or_eq_of_mem_set hn with h | h
  ·exact h2 n h
  ·rw [h];exact h1 y (by simp)
theorem zXo {s:zAc} (hf:Fits s):I64s (zCH s).1:=by
 unfold zCH
 split
 ·rename_i hmp
  have hm:=zEL.1 hmp
  simp only
  rw [zLv]
  rcases hm with ⟨d0,d1,h,v,z⟩ | ⟨d0,d1,h,c,v,z⟩ | ⟨d0,d1,h,w0,w1,l,x,c,n,z⟩ | ⟨d0,d1,h,c,n,z⟩
  ·rw [if_pos h];exact hf.V
  ·rw [if_neg (by omega),if_pos h]
   refine zWq _ _ _ hf.V fun n hn=> ?_
   rw [(List.mem_replicate.1 hn).2];omega
  ·rw [if_neg (by omega),if_neg (by omega),if_pos h]
   intro n hn
   obtain ⟨i,h1,h2⟩:=List.mem_iff_getElem.1 hn
   rw [List.getElem_zipWith] at h2
   rw [←h2];exact zAeq (by omega) c hf.Sc
  ·rw [if_neg (by omega),if_neg (by omega),if_neg (by omega)]
   intro n hn
   obtain ⟨b,hb,rfl⟩:=List.mem_map.1 hn
   have:=hf.Sc
   unfold J64 at this
   unfold zPt
   split<;>omega
 ·intro n hn;simp at hn
def zJX (v:List Int) (s:zAc):List Int×Int:=if (zCH s).2≠0 then ([],(zCH s).2) else vecP (·-·) v (zCH s).1
theorem zZy {v:List Int} {s:zAc} (hi:I64s v) (hf:Fits s):zHd v s=some (zJX v s):=by
 rw [zHd,zWc hf,zAb,zJX]
 by_cases h:(zCH s).2≠0
 ·rw [if_pos h,if_pos h]
 ·rw [if_neg h,if_neg h,zAdY hi (zXo hf)];rfl
def zAbk (p:zAc×List Int×Int):Int×Int×(List Int)×(List Int)×Int×Int×(List Int)×(List Bool)×(List Int)×Int:=(p.1.F_Scheme,p.1.F_Dim,p.1.F_L,p.1.F_V,p.1.F_Scale,p.1.F_Wide,p.1.F_Lev,p.1.F_Neg,p.2.1,p.2.2)
def zXn (h:zAi) (g left:List Int) (seed:Int) (n:List Int):zAc×List Int×Int:=
 if (vecP (·+·) g left).2≠0 then (zCb,[],(vecP (·+·) g left).2)
 else if (zBO h (vecP (·+·) g left).1 seed n).2≠0 then (zCb,[],(zBO h (vecP (·+·) g left).1 seed n).2)
 else if (zJX (vecP (·+·) g left).1 (zBO h (vecP (·+·) g left).1 seed n).1).2≠0 then (zCb,[],(zJX (vecP (·+·) g left).1 (zBO h (vecP (·+·) g left).1 seed n).1).2)
 else ((zBO h (vecP (·+·) g left).1 seed n).1,(zJX (vecP (·+·) g left).1 (zBO h (vecP (·+·) g left).1 seed n).1).1,0)
theorem zAcS {h:zAi} {g left:List Int} {seed:Int} {n:List Int} (hg:I64s g) (hl:I64s left) (hn:n.length≤100000):zH0 h g left seed n=some (zAbk (zXn h g left seed n)):=by
 have hJ:I64s (vecP (·+·) g left).1:=zAcd
 rw [zH0,zAd5 hg hl,zAb,zXn]
 by_cases h1:(vecP (·+·) g left).2≠0
 ·rw [if_pos h1,if_neg h1,zAb]
  simp only
  rw [if_neg h1,if_pos h1];rfl
 rw [if_neg h1,if_pos (by simpa using h1),zAc4 hJ hn,zAb,zAb]
 simp only
 by_cases h2:(zBO h (vecP (·+·) g left).1 seed n).2≠0
 ·rw [if_pos h2,show (zIB (zBO h (vecP (·+·) g left).1 seed n)).2.2.2.2.2.2.2.2=(zBO h (vecP (·+·) g left).1 seed n).2 from rfl,if_neg h2,if_pos h2];rfl
 rw [if_neg h2,show (zIB (zBO h (vecP (·+·) g left).1 seed n)).2.2.2.2.2.2.2.2=(zBO h (vecP (·+·) g left).1 seed n).2 from rfl,if_pos (by simpa using h2)]
 have hL:=zZy (v:=(vecP (·+·) g left).1) (s:=(zBO h (vecP (·+·) g left).1 seed n).1) hJ (zAa6 hJ)
 rw [show (⟨(zIB (zBO h (vecP (·+·) g left).1 seed n)).1,(zIB (zBO h (vecP (·+·) g left).1 seed n)).2.1,(zIB (zBO h (vecP (·+·) g left).1 seed n)).2.2.1,(zIB (zBO h (vecP (·+·) g left).1 seed n)).2.2.2.1,(zIB (zBO h (vecP (·+·) g left).1 seed n)).2.2.2.2.1,(zIB (zBO h (vecP (·+·) g left).1 seed n)).2.2.2.2.2.1,(zIB (zBO h (vecP (·+·) g left).1 seed n)).2.2.2.2.2.2.1,(zIB (zBO h (vecP (·+·) g left).1 seed n)).2.2.2.2.2.2.2.1⟩:zAc)=(zBO h (vecP (·+·) g left).1 seed n).1 from rfl,hL,zAb]
 by_cases h3:(zJX (vecP (·+·) g left).1 (zBO h (vecP (·+·) g left).1 seed n).1).2≠0
 ·rw [if_pos h3,if_pos h3];rfl
 ·rw [if_neg h3,if_neg h3];rfl
end Go.Proofs.YtdgdgfckcnjpfaaGreat.Abs
