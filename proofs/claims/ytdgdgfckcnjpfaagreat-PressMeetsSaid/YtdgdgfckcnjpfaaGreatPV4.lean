/- Plain facts: numbers drawn; vectors pressed as levels, as signs. Conditions: none. -/
import Derived.Test.YtdgdgfckcnjpfaaGreatPV3
namespace Go.Proofs.YtdgdgfckcnjpfaaGreat.Abs
open Go Go.RowKit Go.IntWalk
set_option linter.unusedVariables false
set_option linter.unusedSimpArgs false
set_option linter.unnecessarySimpa false
set_option maxRecDepth 100000
def zAbX (a n:Int):Int:=bXor .u64 (IntKind.u64.wrap ((bXor .u64 a (IntKind.u64.wrap n))*11400714819323198485)) (sShr .u64 (IntKind.u64.wrap ((bXor .u64 a (IntKind.u64.wrap n))*11400714819323198485)) 29)
def zAcI (a:Int):Int:=bXor .u64 (IntKind.u64.wrap (a*13787848793156543929)) (sShr .u64 (IntKind.u64.wrap (a*13787848793156543929)) 32)
def zU8 (seed:Int) (l:List Int):Int:=zAcI (l.foldl zAbX seed)
theorem zXO (l:List Int) (hl:l.length≤1000000):∀(t:List Int) (k:Nat) (a:Int),l.drop k=t→zDk l (k:Int) a=some (t.foldl zAbX a)
 | [],k,a,h1=>by rw [zDk,if_neg (zAI h1)];rfl
 | x::t,k,a,h1=>by
  have g1:=zAm h1
  rw [zDk,if_pos g1.1,if_pos (by omega),g1.2.1,zEZ,zAb,zA6 (by omega)]
  exact zXO l hl t (k+1) _ g1.2.2
theorem zAdU (seed:Int) (l:List Int) (hl:l.length≤1000000):zMo seed l=some (zU8 seed l):=by
 have:=zXO l hl l 0 seed rfl
 rw [show ((0:Nat):Int)=0 from rfl] at this
 rw [zMo,zMP,this];rfl
theorem zAaK {p q seed:Int} {l:List Int} (hl:l.length≤1000000) (h:p≤q) (hq:0<q):zFX p q seed l=some (decide (Int.tmod (zU8 seed l) q<p),0):=by
 rw [zFX,if_neg (by omega),zLL,if_neg (by omega),zAdU seed l hl,zAb,if_pos (by omega),zAb]
 simp
def levQ (seed:Int) (n:List Int) (m w:Int) (k:Nat) (x:Int):Int:=
 if 0<(zBh x m w).2.1∧Int.tmod (zU8 seed (n++[(k:Int)])) m<(zBh x m w).2.1 then (zBh x m w).1+1 else (zBh x m w).1
def zHQ (seed:Int) (n:List Int) (m w:Int):Nat→List Int→List Int
 | _,[]=>[]
 | k,x::t=>levQ seed n m w k x::zHQ seed n m w (k+1) t
theorem zPo (seed:Int) (n:List Int) (m w:Int):∀(v:List Int) (k:Nat),(zHQ seed n m w k v).length=v.length
 | [],k=>rfl
 | x::t,k=>by simp [zHQ,zPo seed n m w t (k+1)]
theorem zMw {x m w:Int} (hw:1≤w∧w≤8) (h:(x.natAbs:Int)≤m):(zBh x m w).2.2=0:=by
 unfold zBh
 rw [if_pos ⟨hw,by omega,h⟩]
 split<;>rfl
theorem zAcn {seed:Int} {n:List Int} {m w:Int} {k:Nat} {x:Int} (hw:1≤w∧w≤8) (h:(x.natAbs:Int)≤m):0≤levQ seed n m w k x∧levQ seed n m w k x≤(zA7 w:Int):=by
 have hi:=zOW (zMw hw h)
 unfold levQ
 split
 ·rename_i hc;have:=hi.2.2.2.1 hc.1;omega
 ·omega
theorem zRm {seed:Int} {n:List Int} {m w:Int} (hw:1≤w∧w≤8):∀(v:List Int) (k:Nat),(∀x∈v,(x.natAbs:Int)≤m)→∀y∈zHQ seed n m w k v,0≤y∧y≤(zA7 w:Int)
 | [],k,h,y,hy=>by cases hy
 | x::t,k,h,y,hy=>by
  rcases List.mem_cons.1 hy with rfl | hy
  ·exact zAcn hw (h x (by simp))
  ·exact zRm hw t (k+1) (fun z hz=>h z (by simp [hz])) y hy
theorem zAan (l:List Int) (hl:l.length≤1000000):zCx l=some l:=by
 rw [zCx,List.nil_append,if_pos (zJv (by omega))]
theorem zT8 (l:List Int) (hl:l.length≤17592186044416):zBX l=some l:=by
 rw [zBX,List.nil_append,if_pos (zJv (by omega))]
theorem zUf (v:List Int) (w seed:Int) (n:List Int) (m:Int) (hi:I64s v) (hl:v.length≤4096) (hn:n.length≤100000) (hw:1≤w∧w≤8) (hm:J64 m) (hmx:∀x∈v,(x.natAbs:Int)≤m):
  ∀(t:List Int) (k:Nat) (p1:List Int) (p2:List Bool),v.drop k=t→p1.length=k→p2.length=k→
   zCI v w seed n (m,0) (k:Int) (p1++List.replicate t.length 0) (p2++List.replicate t.length false)=some (.inr (p1++zHQ seed n m w k t,p2++t.map fun x=>decide (x<0)))
 | [],k,p1,p2,h1,h2,h3=>by rw [zCI,if_neg (zAI h1)];simp [zHQ]
 | x::t,k,p1,p2,h1,h2,h3=>by
  have g1:=zAm h1
  have hx:x∈v:=by
   have:x∈v.drop k:=by rw [h1];simp
   exact List.mem_of_mem_drop this
  have hle:=hmx x hx
  have hok:=zMw (x:=x) (m:=m) hw hle
  have hin:=zOW hok
  have hst:=zJV hw
  have hm0:0≤m:=by omega
  rw [zCI,if_pos g1.1,if_pos (by omega),g1.2.1]
  simp only
  rw [zV9 (hi x hx) hm,zAb,if_neg (by simp [hok])]
  have hj:((if (zBh x m w).2.1>0 then (zCx n)>>=fun r10=>if room 8 (r10++[(k:Int)]).length then (zFX (zBh x m w).2.1 (IntKind.u64.wrap m) seed (r10++[(k:Int)]))>>=fun r11=>if r11.2≠0 then some (.inl (0,0,0,0,[],[],r11.2)) else if r11.1=true then some (.inr (IntKind.u64.wrap ((zBh x m w).1+1))) else some (.inr (zBh x m w).1) else none else some (.inr (zBh x m w).1)):Option (Sum (Int×Int×Int×Int×(List Int)×(List Bool)×Int) Int))=some (.inr (levQ seed n m w k x)):=by
   unfold levQ
   by_cases hp:0<(zBh x m w).2.1
   ·have hlt:(zBh x m w).2.1<m:=by rcases hin.2.2.2.2 with h | h<;>omega
    have:=hin.2.2.2.1 hp
    rw [if_pos hp,zAan n (by omega),zAb,if_pos (zJv (by simp;omega)),u64_in m (by unfold J64 at hm;omega),zAaK (by simp;omega) (by omega) (by omega),zAb]
    simp only
    rw [if_neg (by simp),u64_in _ (by omega)]
    by_cases hc:Int.tmod (zU8 seed (n++[(k:Int)])) m<(zBh x m w).2.1
    ·rw [if_pos (by simp [hc]),if_pos ⟨hp,hc⟩]
    ·rw [if_neg (by simp [hc]),if_neg (fun h=>hc h.2)]
   ·rw [if_neg hp,if_neg (fun h=>hp h.1)]
  rw [hj,zAb]
  simp only
  rw [if_pos (by simp;omega),if_pos (by simp;omega),List.length_cons,List.replicate_succ,List.replicate_succ,zPJ h2,zAb,zPJ h3,zAb,zA6 (by omega)]
  have ih:=zUf v w seed n m hi hl hn hw hm hmx t (k+1) (p1++[levQ seed n m w k x]) (p2++[decide (x<0)]) g1.2.2 (by simp [h2]) (by simp [h3])
  simp only [List.append_assoc,List.singleton_append] at ih
  rw [ih]
  simp [zHQ]
def zTb (v:List Int) (w seed:Int) (n:List Int):Int×Int×Int×Int×(List Int)×(List Bool)×Int:=
 if ¬(1≤w∧w≤8)∨v.length=0 then (0,0,0,0,[],[],1) else if (zC8 v).2≠0 then (0,0,0,0,[],[],(zC8 v).2) else (2,(v.length:Int),zDq v,w,zHQ seed n (zDq v) w 0 v,v.map fun x=>decide (x<0),0)
theorem zRg {v:List Int} (h:(zC8 v).2=0):v.length≤4096∧(zC8 v).1=zDq v∧∀n∈v,J64 (n.natAbs:Int):=by
 unfold zC8 at*
 split at h
 ·simp at h
 ·split at h
  ·rename_i h1 h2
   rw [if_neg h1,if_pos h2];exact ⟨by omega,rfl,h2⟩
  ·simp at h
theorem zZu {v:List Int} {w seed:Int} {n:List Int} (hi:I64s v) (hn:n.length≤100000):zHp v w seed n=some (zTb v w seed n):=by
 rw [zHp,zQS,zAb,orB,zTb]
 by_cases hw:1≤w∧w≤8
 ·by_cases h0:v.length=0
  ·rw [if_pos hw,if_pos (by simp [h0]),if_pos (.inr h0)]
  have hnn:¬(¬(1≤w∧w≤8)∨v.length=0):=by omega
  have hc:(decide (((zA7 w:Int),(0:Int)).2≠0)||((v.length:Int)==0))=false:=by
   have hv:v≠[]:=by rintro rfl;exact h0 rfl
   simp [hv]
  rw [if_neg hnn,if_pos hw,hc,if_neg Bool.false_ne_true,zWX hi,zAb]
  by_cases he:(zC8 v).2≠0
  ·rw [if_pos he,if_pos he]
  rw [if_neg he,if_neg he]
  obtain ⟨a1,a2,a3⟩:=zRg (v:=v) (by simpa using he)
  have hmv:zC8 v=(zDq v,0):=by
   have:(zC8 v).2=0:=by simpa using he
   rw [←a2,←this]
  have hL:=zUf v w seed n (zDq v) hi a1 hn hw (zTr a3) (fun x hx=>zN4 hx) v 0 [] [] rfl rfl rfl
  rw [show ((0:Nat):Int)=0 from rfl] at hL
  simp only [List.nil_append] at hL
  rw [if_pos (by omega),if_pos (by omega),zAb,zAb,zAb,hmv,Int.toNat_natCast,hL,zAb]
 ·rw [if_neg hw,if_pos (by simp),if_pos (.inl hw)]
def zCW (v:List Int):Int×Int:=if v.length=0 then (0,1) else (Int.tdiv (zLj v).1 (v.length:Int),(zLj v).2)
theorem zAby (v:List Int):0≤(zLj v).1∧(zLj v).1≤9223372036854775807:=by
 unfold zLj
 repeat' split
 ·simp
 ·rename_i h;have:=zM4 v;unfold J64 at h;simp only;omega
 ·simp
theorem zQ8 (v:List Int):0≤(zCW v).1∧(zCW v).1≤9223372036854775807:=by
 unfold zCW
 split
 ·simp
 ·have h:=zAby v
  obtain ⟨k,hk⟩:∃k:Nat,(zLj v).1=(k:Int):=⟨(zLj v).1.toNat,by omega⟩
  simp only [hk]
  rw [show Int.tdiv (k:Int) (v.length:Int)=((k/v.length:Nat):Int) from rfl]
  have:=Nat.div_le_self k v.length
  generalize k/v.length=q at this⊢
  omega
theorem zAcm {v:List Int} (hi:I64s v):zJI v=some (zCW v):=by
 rw [zJI,zCW]
 by_cases h0:v.length=0
 ·rw [if_pos (by omega),if_pos h0]
 rw [if_neg (by omega),if_neg h0,zAbh hi,zAb,if_pos (by omega)]
 have:=zQ8 v
 rw [zCW,if_neg h0] at this
 rw [i64_in _ (by simp only at this;omega)]
theorem zW7 (v:List Int) (hl:v.length≤1000000):∀(t:List Int) (k:Nat) (acc:List Bool),v.drop k=t→acc.length≤k→zAz v (k:Int) acc=some (acc++t.map fun x=>decide (x<0))
 | [],k,acc,h1,h2=>by rw [zAz,if_neg (zAI h1)];simp
 | x::t,k,acc,h1,h2=>by
  have g1:=zAm h1
  rw [zAz,if_pos g1.1,if_pos (by omega),g1.2.1,zJo,zAb,if_pos (zHl (by simp;omega)),zA6 (by omega),zW7 v hl t (k+1) _ g1.2.2 (by simp;omega)]
  simp
def zPY (v:List Int):Int×Int×Int×Int×(List Bool)×Int:=if (zCW v).2≠0 then (0,0,0,0,[],(zCW v).2) else (3,(v.length:Int),(zCW v).1,0,v.map fun x=>decide (x<0),0)
theorem zUh {v:List Int} (hi:I64s v) (hl:v.length≤1000000):zGM v=some (zPY v):=by
 rw [zGM,zAcm hi,zAb,zPY]
 by_cases h:(zCW v).2≠0
 ·rw [if_pos h,if_pos h]
 have:=zW7 v hl v 0 [] rfl (by simp)
 rw [show ((0:Nat):Int)=0 from rfl] at this
 rw [if_neg h,if_neg h,zCk,if_pos (by omega),zAb,show List.replicate (Int.toNat 0) false=[] from rfl,this,zAb,zAb]
 rfl
end Go.Proofs.YtdgdgfckcnjpfaaGreat.Abs
