/- Plain facts: numbers drawn; vectors pressed as levels, as signs. Conditions: none. -/
import Derived.Test.YtdgdgfckcnjpfaaGreatPV3
namespace Go.Proofs.YtdgdgfckcnjpfaaGreat.Abs
open Go Go.RowKit Go.IntWalk
set_option linter.unusedVariables false
set_option linter.unusedSimpArgs false
set_option linter.unnecessarySimpa false
set_option maxRecDepth 100000
def zAdp (a n:Int):Int:=bXor .u64 (IntKind.u64.wrap ((bXor .u64 a (IntKind.u64.wrap n))*11400714819323198485)) (sShr .u64 (IntKind.u64.wrap ((bXor .u64 a (IntKind.u64.wrap n))*11400714819323198485)) 29)
def zAdA (a:Int):Int:=bXor .u64 (IntKind.u64.wrap (a*13787848793156543929)) (sShr .u64 (IntKind.u64.wrap (a*13787848793156543929)) 32)
def zXb (seed:Int) (l:List Int):Int:=zAdA (l.foldl zAdp seed)
theorem zZE (l:List Int) (hl:l.length≤1000000):∀(t:List Int) (k:Nat) (a:Int),l.drop k=t→zDr l (k:Int) a=some (t.foldl zAdp a)
 | [],k,a,h1=>by rw [zDr,if_neg (zAp h1)];rfl
 | x::t,k,a,h1=>by
  have g1:=zAh h1
  rw [zDr,if_pos g1.1,if_pos (by omega),g1.2.1,zE9,zAb,zAx (by omega)]
  exact zZE l hl t (k+1) _ g1.2.2
theorem zAeC (seed:Int) (l:List Int) (hl:l.length≤1000000):zMI seed l=some (zXb seed l):=by
 have:=zZE l hl l 0 seed rfl
 rw [show ((0:Nat):Int)=0 from rfl] at this
 rw [zMI,zMW,this];rfl
theorem zAci {p q seed:Int} {l:List Int} (hl:l.length≤1000000) (h:p≤q) (hq:0<q):zGr p q seed l=some (decide (Int.tmod (zXb seed l) q<p),0):=by
 rw [zGr,if_neg (by omega),zLG,if_neg (by omega),zAeC seed l hl,zAb,if_pos (by omega),zAb]
 simp
def levQ (seed:Int) (n:List Int) (m w:Int) (k:Nat) (x:Int):Int:=
 if 0<(zAL x m w).2.1∧Int.tmod (zXb seed (n++[(k:Int)])) m<(zAL x m w).2.1 then (zAL x m w).1+1 else (zAL x m w).1
def zLo (seed:Int) (n:List Int) (m w:Int):Nat→List Int→List Int
 | _,[]=>[]
 | k,x::t=>levQ seed n m w k x::zLo seed n m w (k+1) t
theorem zV4 (seed:Int) (n:List Int) (m w:Int):∀(v:List Int) (k:Nat),(zLo seed n m w k v).length=v.length
 | [],k=>rfl
 | x::t,k=>by simp [zLo,zV4 seed n m w t (k+1)]
theorem zMx {x m w:Int} (hw:1≤w∧w≤8) (h:(x.natAbs:Int)≤m):(zAL x m w).2.2=0:=by
 unfold zAL
 rw [if_pos ⟨hw,by omega,h⟩]
 split<;>rfl
theorem zAd6 {seed:Int} {n:List Int} {m w:Int} {k:Nat} {x:Int} (hw:1≤w∧w≤8) (h:(x.natAbs:Int)≤m):0≤levQ seed n m w k x∧levQ seed n m w k x≤(zAH w:Int):=by
 have hi:=zQ4 (zMx hw h)
 unfold levQ
 split
 ·rename_i hc;have:=hi.2.2.2.1 hc.1;omega
 ·omega
theorem zYK {seed:Int} {n:List Int} {m w:Int} (hw:1≤w∧w≤8):∀(v:List Int) (k:Nat),(∀x∈v,(x.natAbs:Int)≤m)→∀y∈zLo seed n m w k v,0≤y∧y≤(zAH w:Int)
 | [],k,h,y,hy=>by cases hy
 | x::t,k,h,y,hy=>by
  rcases List.mem_cons.1 hy with rfl | hy
  ·exact zAd6 hw (h x (by simp))
  ·exact zYK hw t (k+1) (fun z hz=>h z (by simp [hz])) y hy
theorem zAbt (l:List Int) (hl:l.length≤1000000):zCJ l=some l:=by
 rw [zCJ,List.nil_append,if_pos (zEy (by omega))]
theorem zWo (l:List Int) (hl:l.length≤17592186044416):zBW l=some l:=by
 rw [zBW,List.nil_append,if_pos (zEy (by omega))]
theorem zWe (v:List Int) (w seed:Int) (n:List Int) (m:Int) (hi:I64s v) (hl:v.length≤4096) (hn:n.length≤100000) (hw:1≤w∧w≤8) (hm:J64 m) (hmx:∀x∈v,(x.natAbs:Int)≤m):
  ∀(t:List Int) (k:Nat) (p1:List Int) (p2:List Bool),v.drop k=t→p1.length=k→p2.length=k→
   zCQ v w seed n (m,0) (k:Int) (p1++List.replicate t.length 0) (p2++List.replicate t.length false)=some (.inr (p1++zLo seed n m w k t,p2++t.map fun x=>decide (x<0)))
 | [],k,p1,p2,h1,h2,h3=>by rw [zCQ,if_neg (zAp h1)];simp [zLo]
 | x::t,k,p1,p2,h1,h2,h3=>by
  have g1:=zAh h1
  have hx:x∈v:=by
   have:x∈v.drop k:=by rw [h1];simp
   exact List.mem_of_mem_drop this
  have hle:=hmx x hx
  have hok:=zMx (x:=x) (m:=m) hw hle
  have hin:=zQ4 hok
  have hst:=zHj hw
  have hm0:0≤m:=by omega
  rw [zCQ,if_pos g1.1,if_pos (by omega),g1.2.1]
  simp only
  rw [zXZ (hi x hx) hm,zAb,if_neg (by simp [hok])]
  have hj:((if (zAL x m w).2.1>0 then (zCJ n)>>=fun r10=>if room 8 (r10++[(k:Int)]).length then (zGr (zAL x m w).2.1 (IntKind.u64.wrap m) seed (r10++[(k:Int)]))>>=fun r11=>if r11.2≠0 then some (.inl (0,0,0,0,[],[],r11.2)) else if r11.1=true then some (.inr (IntKind.u64.wrap ((zAL x m w).1+1))) else some (.inr (zAL x m w).1) else none else some (.inr (zAL x m w).1)):Option (Sum (Int×Int×Int×Int×(List Int)×(List Bool)×Int) Int))=some (.inr (levQ seed n m w k x)):=by
   unfold levQ
   by_cases hp:0<(zAL x m w).2.1
   ·have hlt:(zAL x m w).2.1<m:=by rcases hin.2.2.2.2 with h | h<;>omega
    have:=hin.2.2.2.1 hp
    rw [if_pos hp,zAbt n (by omega),zAb,if_pos (zEy (by simp;omega)),u64_in m (by unfold J64 at hm;omega),zAci (by simp;omega) (by omega) (by omega),zAb]
    simp only
    rw [if_neg (by simp),u64_in _ (by omega)]
    by_cases hc:Int.tmod (zXb seed (n++[(k:Int)])) m<(zAL x m w).2.1
    ·rw [if_pos (by simp [hc]),if_pos ⟨hp,hc⟩]
    ·rw [if_neg (by simp [hc]),if_neg (fun h=>hc h.2)]
   ·rw [if_neg hp,if_neg (fun h=>hp h.1)]
  rw [hj,zAb]
  simp only
  rw [if_pos (by simp;omega),if_pos (by simp;omega),List.length_cons,List.replicate_succ,List.replicate_succ,zRq h2,zAb,zRq h3,zAb,zAx (by omega)]
  have ih:=zWe v w seed n m hi hl hn hw hm hmx t (k+1) (p1++[levQ seed n m w k x]) (p2++[decide (x<0)]) g1.2.2 (by simp [h2]) (by simp [h3])
  simp only [List.append_assoc,List.singleton_append] at ih
  rw [ih]
  simp [zLo]
def zVA (v:List Int) (w seed:Int) (n:List Int):Int×Int×Int×Int×(List Int)×(List Bool)×Int:=
 if ¬(1≤w∧w≤8)∨v.length=0 then (0,0,0,0,[],[],1) else if (zCa v).2≠0 then (0,0,0,0,[],[],(zCa v).2) else (2,(v.length:Int),zCE v,w,zLo seed n (zCE v) w 0 v,v.map fun x=>decide (x<0),0)
theorem zOV {v:List Int} (h:(zCa v).2=0):v.length≤4096∧(zCa v).1=zCE v∧∀n∈v,J64 (n.natAbs:Int):=by
 unfold zCa at*
 split at h
 ·simp at h
 ·split at h
  ·rename_i h1 h2
   rw [if_neg h1,if_pos h2];exact ⟨by omega,rfl,h2⟩
  ·simp at h
theorem zAbK {v:List Int} {w seed:Int} {n:List Int} (hi:I64s v) (hn:n.length≤100000):zHR v w seed n=some (zVA v w seed n):=by
 rw [zHR,zTy,zAb,orB,zVA]
 by_cases hw:1≤w∧w≤8
 ·by_cases h0:v.length=0
  ·rw [if_pos hw,if_pos (by simp [h0]),if_pos (.inr h0)]
  have hnn:¬(¬(1≤w∧w≤8)∨v.length=0):=by omega
  have hc:(decide (((zAH w:Int),(0:Int)).2≠0)||((v.length:Int)==0))=false:=by
   have hv:v≠[]:=by rintro rfl;exact h0 rfl
   simp [hv]
  rw [if_neg hnn,if_pos hw,hc,if_neg Bool.false_ne_true,zX0 hi,zAb]
  by_cases he:(zCa v).2≠0
  ·rw [if_pos he,if_pos he]
  rw [if_neg he,if_neg he]
  obtain ⟨a1,a2,a3⟩:=zOV (v:=v) (by simpa using he)
  have hmv:zCa v=(zCE v,0):=by
   have:(zCa v).2=0:=by simpa using he
   rw [←a2,←this]
  have hL:=zWe v w seed n (zCE v) hi a1 hn hw (zRC a3) (fun x hx=>zPz hx) v 0 [] [] rfl rfl rfl
  rw [show ((0:Nat):Int)=0 from rfl] at hL
  simp only [List.nil_append] at hL
  rw [if_pos (by omega),if_pos (by omega),zAb,zAb,zAb,hmv,Int.toNat_natCast,hL,zAb]
 ·rw [if_neg hw,if_pos (by simp),if_pos (.inl hw)]
def zBS (v:List Int):Int×Int:=if v.length=0 then (0,1) else (Int.tdiv (zF8 v).1 (v.length:Int),(zF8 v).2)
theorem zAcI (v:List Int):0≤(zF8 v).1∧(zF8 v).1≤9223372036854775807:=by
 unfold zF8
 repeat' split
 ·simp
 ·rename_i h;have:=zJK v;unfold J64 at h;simp only;omega
 ·simp
theorem zTx (v:List Int):0≤(zBS v).1∧(zBS v).1≤9223372036854775807:=by
 unfold zBS
 split
 ·simp
 ·have h:=zAcI v
  obtain ⟨k,hk⟩:∃k:Nat,(zF8 v).1=(k:Int):=⟨(zF8 v).1.toNat,by omega⟩
  simp only [hk]
  rw [show Int.tdiv (k:Int) (v.length:Int)=((k/v.length:Nat):Int) from rfl]
  have:=Nat.div_le_self k v.length
  generalize k/v.length=q at this⊢
  omega
theorem zAdJ {v:List Int} (hi:I64s v):zJF v=some (zBS v):=by
 rw [zJF,zBS]
 by_cases h0:v.length=0
 ·rw [if_pos (by omega),if_pos h0]
 rw [if_neg (by omega),if_neg h0,zAc3 hi,zAb,if_pos (by omega)]
 have:=zTx v
 rw [zBS,if_neg h0] at this
 rw [i64_in _ (by simp only at this;omega)]
theorem zYi (v:List Int) (hl:v.length≤1000000):∀(t:List Int) (k:Nat) (acc:List Bool),v.drop k=t→acc.length≤k→zAB v (k:Int) acc=some (acc++t.map fun x=>decide (x<0))
 | [],k,acc,h1,h2=>by rw [zAB,if_neg (zAp h1)];simp
 | x::t,k,acc,h1,h2=>by
  have g1:=zAh h1
  rw [zAB,if_pos g1.1,if_pos (by omega),g1.2.1,zJt,zAb,if_pos (zEx (by simp;omega)),zAx (by omega),zYi v hl t (k+1) _ g1.2.2 (by simp;omega)]
  simp
def zJp (v:List Int):Int×Int×Int×Int×(List Bool)×Int:=if (zBS v).2≠0 then (0,0,0,0,[],(zBS v).2) else (3,(v.length:Int),(zBS v).1,0,v.map fun x=>decide (x<0),0)
theorem zWE {v:List Int} (hi:I64s v) (hl:v.length≤1000000):zG5 v=some (zJp v):=by
 rw [zG5,zAdJ hi,zAb,zJp]
 by_cases h:(zBS v).2≠0
 ·rw [if_pos h,if_pos h]
 have:=zYi v hl v 0 [] rfl (by simp)
 rw [show ((0:Nat):Int)=0 from rfl] at this
 rw [if_neg h,if_neg h,zCx,if_pos (by omega),zAb,show List.replicate (Int.toNat 0) false=[] from rfl,this,zAb,zAb]
 rfl
end Go.Proofs.YtdgdgfckcnjpfaaGreat.Abs
