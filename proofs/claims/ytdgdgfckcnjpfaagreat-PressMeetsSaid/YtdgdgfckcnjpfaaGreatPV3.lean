/- Plain facts: vectors' sums, sizes; levels. Conditions: none. -/
import Derived.Test.YtdgdgfckcnjpfaaGreatPHb
import Derived.Test.YtdgdgfckcnjpfaaGreatPV1
import Derived.Test.YtdgdgfckcnjpfaaGreatPV2
namespace Go.Proofs.YtdgdgfckcnjpfaaGreat.Abs
open Go Go.RowKit Go.IntWalk
set_option linter.unusedVariables false
set_option linter.unusedSimpArgs false
set_option linter.unnecessarySimpa false
set_option maxRecDepth 100000
instance:DecidablePred J64:=fun x=>by unfold J64;infer_instance
def ov (x:Int):Int×Int:=if J64 x then (x,0) else (0,2)
theorem zOr {x:Int} (h:J64 x):IntKind.i64.wrap x=x:=i64_in _ h
theorem zXZ {a b:Int} (ha:J64 a) (hb:J64 b):zJP a b=some (ov (a+b)):=by
 have h:=zAbp ha hb
 rw [zJP,ov]
 by_cases c:J64 (a+b)
 ·rw [if_neg (fun x=>h.1 x c),if_pos c,zOr c]
 ·rw [if_pos (h.2 c),if_neg c]
theorem zYp {a b:Int} (ha:J64 a) (hb:J64 b):zJS a b=some (ov (a-b)):=by
 have h:=zAbQ ha hb
 rw [zJS,ov]
 by_cases c:J64 (a-b)
 ·rw [if_neg (fun x=>h.1 x c),if_pos c,zOr c]
 ·rw [if_pos (h.2 c),if_neg c]
theorem zXR {a:Int} (ha:J64 a):zKa a=some (ov (a.natAbs:Int)):=by
 rw [zKa]
 by_cases c:a≥0
 ·rw [if_pos c,ov,if_pos (by unfold J64 at*;omega)]
  congr 2;omega
 ·rw [if_neg c,zOX,zYp (by unfold J64;omega) ha,zAb,zAb,show (0:Int)-a=(a.natAbs:Int) by omega]
theorem zPJ {α:Type} {pre r:List α} {x y:α} {k:Nat} (h:pre.length=k):(pre++x::r).set (Int.toNat (k:Int)) y=pre++y::r:=by
 subst h;simp
def zOo (op:Int→Int→Int) (a b:List Int):List Int×Int:=if ∀n∈List.zipWith op a b,J64 n then (List.zipWith op a b,0) else ([],2)
theorem zYS (op:Int→Int→Int) (F:Int→List Int→Option (Sum ((List Int)×Int) (List Int))) (c:Int→Option (Int×Int)) (a b:List Int)
  (hF:∀k out,F k out=if k<(a.length:Int) then (c k)>>=fun r3=>if 0≤k∧k<(out.length:Int) then some (out.set (Int.toNat k) r3.1)>>=fun y4=>if r3.2≠0 then some (.inl ([],r3.2)) else F (IntKind.i64.wrap (k+1)) y4 else none else some (.inr out))
  (hc:∀(k:Nat) x y t u,a.drop k=x::t→b.drop k=y::u→c (k:Int)=some (ov (op x y))) (hl:a.length≤1000000) (he:a.length=b.length):
  ∀(t u:List Int) (k:Nat) (pre:List Int),a.drop k=t→b.drop k=u→pre.length=k→
   F (k:Int) (pre++List.replicate t.length 0)=some (if ∀n∈List.zipWith op t u,J64 n then .inr (pre++List.zipWith op t u) else .inl ([],2))
 | [],u,k,pre,h1,h2,h3=>by
  rw [hF,if_neg (zAI h1)];simp
 | x::t,[],k,pre,h1,h2,h3=>by
  have:=List.drop_eq_nil_iff.1 h2
  have:=(zAm h1).1
  omega
 | x::t,y::u,k,pre,h1,h2,h3=>by
  have g1:=zAm h1
  have g2:=zAm h2
  rw [hF,if_pos g1.1,hc k x y t u h1 h2,zAb,if_pos (by simp;omega),List.length_cons,List.replicate_succ,zPJ h3,zAb,ov]
  by_cases hx:J64 (op x y)
  ·rw [if_pos hx]
   simp only
   rw [if_neg (by simp),zA6 (by omega)]
   have ih:=zYS op F c a b hF hc hl he t u (k+1) (pre++[op x y]) g1.2.2 g2.2.2 (by simp [h3])
   simp only [List.append_assoc,List.singleton_append] at ih
   rw [ih]
   simp [hx]
  ·rw [if_neg hx]
   simp [hx]
def vecP (op:Int→Int→Int) (a b:List Int):List Int×Int:=if 4096<a.length∨4096<b.length then ([],3) else if a.length≠b.length then ([],4) else zOo op a b
theorem zX7 (a b:List Int):zIl a b=some (if 4096<a.length∨4096<b.length then 3 else if a.length≠b.length then 4 else 0):=by
 rw [zIl]
 by_cases h:4096<a.length∨4096<b.length
 ·rw [if_pos h,if_pos (by split<;>omega)]
 ·rw [if_neg h,if_neg (by split<;>omega)]
  by_cases he:a.length≠b.length
  ·rw [if_pos (by omega),if_pos he]
  ·rw [if_neg (by omega),if_neg he]
theorem zL0 {v:List Int} (hi:I64s v) {k:Nat} {x:Int} {t:List Int} (h:v.drop k=x::t):J64 x:=hi x (by
 have:x∈v.drop k:=by rw [h];simp
 exact List.mem_of_mem_drop this)
theorem zXN {a b:List Int} (ha:I64s a) (hb:I64s b):zKb a b=some (vecP (·+·) a b):=by
 rw [zKb,zX7,zAb,vecP]
 by_cases h:4096<a.length∨4096<b.length
 ·rw [if_pos h,if_pos h];rfl
 by_cases he:a.length≠b.length
 ·rw [if_neg h,if_neg h,if_pos he,if_pos he];rfl
 rw [if_neg h,if_neg h,if_neg he,if_neg he,if_neg (by simp),zFR,if_pos (by omega),zAb,Int.toNat_natCast]
 have:=zYS (·+·) (fun k out=>zBB a b (List.replicate a.length 0) k out) (fun k=>zEN k a b) a b
  (fun k out=>by
   show zBB _ _ _ _ _=_
   rw [zBB,List.length_replicate])
  (fun k x y t u h1 h2=>by
   have g1:=zAm h1
   have g2:=zAm h2
   show zEN _ _ _=_
   rw [zEN,if_pos (by omega),if_pos (by omega),g1.2.1,g2.2.1,zXZ (zL0 ha h1) (zL0 hb h2),zAb])
  (by omega) (by omega) a b 0 [] rfl rfl rfl
 simp only [List.nil_append] at this
 rw [show ((0:Nat):Int)=0 from rfl] at this
 rw [this,zAb,zOo]
 by_cases hz:∀n∈List.zipWith (·+·) a b,J64 n
 ·rw [if_pos hz,if_pos hz];rfl
 ·rw [if_neg hz,if_neg hz];rfl
theorem zAcB {a b:List Int} (ha:I64s a) (hb:I64s b):zMD a b=some (vecP (·-·) a b):=by
 rw [zMD,zX7,zAb,vecP]
 by_cases h:4096<a.length∨4096<b.length
 ·rw [if_pos h,if_pos h];rfl
 by_cases he:a.length≠b.length
 ·rw [if_neg h,if_neg h,if_pos he,if_pos he];rfl
 rw [if_neg h,if_neg h,if_neg he,if_neg he,if_neg (by simp),zFG,if_pos (by omega),zAb,Int.toNat_natCast]
 have:=zYS (·-·) (fun k out=>zBC a b (List.replicate a.length 0) k out) (fun k=>zEF k a b) a b
  (fun k out=>by
   show zBC _ _ _ _ _=_
   rw [zBC,List.length_replicate])
  (fun k x y t u h1 h2=>by
   have g1:=zAm h1
   have g2:=zAm h2
   show zEF _ _ _=_
   rw [zEF,if_pos (by omega),if_pos (by omega),g1.2.1,g2.2.1,zYp (zL0 ha h1) (zL0 hb h2),zAb])
  (by omega) (by omega) a b 0 [] rfl rfl rfl
 simp only [List.nil_append] at this
 rw [show ((0:Nat):Int)=0 from rfl] at this
 rw [this,zAb,zOo]
 by_cases hz:∀n∈List.zipWith (·-·) a b,J64 n
 ·rw [if_pos hz,if_pos hz];rfl
 ·rw [if_neg hz,if_neg hz];rfl
theorem zTP {op:Int→Int→Int} {a b:List Int}:I64s (vecP op a b).1:=by
 unfold vecP zOo
 repeat' split
 ·intro n hn;cases hn
 ·intro n hn;cases hn
 ·rename_i h;exact h
 ·intro n hn;cases hn
def sumA (v:List Int):Int:=(v.map fun n=>(n.natAbs:Int)).sum
theorem zTT (x:Int) (t:List Int):sumA (x::t)=(x.natAbs:Int)+sumA t:=by simp [sumA]
theorem zM4:∀v:List Int,0≤sumA v
 | []=>by simp [sumA]
 | x::t=>by rw [zTT];have:=zM4 t;omega
theorem zXK (v:List Int) (hi:I64s v) (hl:v.length≤1000000):∀(t:List Int) (k:Nat) (acc:Int),v.drop k=t→0≤acc→J64 acc→
  zA8 (v.length:Int) v (k:Int) acc=some (if J64 (acc+sumA t) then .inr (acc+sumA t) else .inl (0,2))
 | [],k,acc,h1,h2,h3=>by
  rw [zA8,if_neg (zAI h1)]
  simp [sumA,h3]
 | x::t,k,acc,h1,h2,h3=>by
  have g1:=zAm h1
  have hx:=zL0 hi h1
  have hs:=zM4 t
  rw [zA8,if_pos g1.1,zIO,if_pos (by omega),g1.2.1,zXR hx,zAb,zAb,ov,zTT]
  by_cases ha:J64 (x.natAbs:Int)
  ·rw [if_pos ha]
   simp only
   rw [if_pos trivial,zXZ h3 ha,zAb,ov]
   by_cases hb:J64 (acc+(x.natAbs:Int))
   ·rw [if_pos hb]
    simp only
    rw [if_neg (by simp),zA6 (by omega),zXK v hi hl t (k+1) _ g1.2.2 (by omega) hb,Int.add_assoc]
   ·have hn:¬J64 (acc+((x.natAbs:Int)+sumA t)):=by unfold J64 at*;omega
    rw [if_neg hb,if_neg hn]
    simp
  ·have hn:¬J64 (acc+((x.natAbs:Int)+sumA t)):=by unfold J64 at*;omega
   rw [if_neg ha,if_neg hn]
   simp
theorem zOV (v:List Int):zGh v=some (if 4096<v.length then 3 else 0):=by
 rw [zGh]
 by_cases h:4096<v.length
 ·rw [if_pos (by omega),if_pos h]
 ·rw [if_neg (by omega),if_neg h]
def zLj (v:List Int):Int×Int:=if 4096<v.length then (0,3) else if J64 (sumA v) then (sumA v,0) else (0,2)
theorem zAbh {v:List Int} (hi:I64s v):zK4 v=some (zLj v):=by
 rw [zK4,zOV,zAb,zLj]
 by_cases h:4096<v.length
 ·rw [if_pos h,if_pos h];rfl
 rw [if_neg h,if_neg h,if_neg (by simp),zE2]
 have:=zXK v hi (by omega) v 0 0 rfl (by omega) (by unfold J64;omega)
 rw [Int.zero_add] at this
 rw [show ((0:Nat):Int)=0 from rfl] at this
 rw [this]
 by_cases hs:J64 (sumA v)
 ·rw [if_pos hs,if_pos hs];rfl
 ·rw [if_neg hs,if_neg hs];rfl
def zHm:Int→List Int→Int
 | m,[]=>m
 | m,x::t=>zHm (if (x.natAbs:Int)>m then (x.natAbs:Int) else m) t
def zDq (v:List Int):Int:=zHm 0 v
theorem zQ5:∀(v:List Int) (m:Int),m≤zHm m v∧∀n∈v,(n.natAbs:Int)≤zHm m v
 | [],m=>by simp [zHm]
 | x::t,m=>by
  have ih:=zQ5 t (if (x.natAbs:Int)>m then (x.natAbs:Int) else m)
  rw [zHm]
  refine ⟨?_, ?_⟩
  ·have:=ih.1;split at this<;>omega
  ·intro n hn
   rcases List.mem_cons.1 hn with rfl | h
   ·have:=ih.1;split at this<;>omega
   ·exact ih.2 n h
theorem zWk:∀(v:List Int) (m:Int),zHm m v=m∨∃n∈v,zHm m v=(n.natAbs:Int)
 | [],m=> .inl rfl
 | x::t,m=>by
  rw [zHm]
  rcases zWk t (if (x.natAbs:Int)>m then (x.natAbs:Int) else m) with h | ⟨n,hn,h⟩
  ·rw [h]
   split
   ·exact .inr ⟨x,by simp,rfl⟩
   ·exact .inl rfl
  ·exact .inr ⟨n,by simp [hn],h⟩
theorem zN4 {v:List Int} {n:Int} (h:n∈v):(n.natAbs:Int)≤zDq v:=(zQ5 v 0).2 n h
theorem zAcp (v:List Int):0≤zDq v:=(zQ5 v 0).1
theorem zTr {v:List Int} (h:∀n∈v,J64 (n.natAbs:Int)):J64 (zDq v):=by
 rcases zWk v 0 with e | ⟨n,hn,e⟩
 ·unfold zDq;rw [e];unfold J64;omega
 ·unfold zDq;rw [e];exact h n hn
theorem zYh (v:List Int) (hi:I64s v) (hl:v.length≤1000000):∀(t:List Int) (k:Nat) (m:Int),v.drop k=t→
  zDE v (k:Int) m=some (if ∀n∈t,J64 (n.natAbs:Int) then .inr (zHm m t) else .inl (0,2))
 | [],k,m,h1=>by
  rw [zDE,if_neg (zAI h1)];simp [zHm]
 | x::t,k,m,h1=>by
  have g1:=zAm h1
  rw [zDE,if_pos g1.1,if_pos (by omega),g1.2.1,zXR (zL0 hi h1),zAb,ov]
  by_cases ha:J64 (x.natAbs:Int)
  ·rw [if_pos ha]
   simp only
   rw [if_neg (by simp),zA6 (by omega),zYh v hi hl t (k+1) _ g1.2.2,zHm]
   simp [ha]
  ·rw [if_neg ha];simp [ha]
def zC8 (v:List Int):Int×Int:=if 4096<v.length then (0,3) else if ∀n∈v,J64 (n.natAbs:Int) then (zDq v,0) else (0,2)
theorem zWX {v:List Int} (hi:I64s v):zHU v=some (zC8 v):=by
 rw [zHU,zOV,zAb,zC8]
 by_cases h:4096<v.length
 ·rw [if_pos h,if_pos h];rfl
 rw [if_neg h,if_neg h,if_neg (by simp)]
 have:=zYh v hi (by omega) v 0 0 rfl
 rw [show ((0:Nat):Int)=0 from rfl] at this
 rw [this]
 by_cases hs:∀n∈v,J64 (n.natAbs:Int)
 ·rw [if_pos hs,if_pos hs];rfl
 ·rw [if_neg hs,if_neg hs];rfl
def zA7 (w:Int):Nat:=2 ^ w.toNat-1
theorem zQS (w:Int):zEv w=some (if 1≤w∧w≤8 then ((zA7 w:Int),0) else (0,1)):=by
 rw [zEv,orB]
 by_cases h:1≤w∧w≤8
 ·rw [if_neg (by simp;omega),if_pos (by omega),if_pos h]
  have:w=1∨w=2∨w=3∨w=4∨w=5∨w=6∨w=7∨w=8:=by omega
  rcases this with rfl | rfl | rfl | rfl | rfl | rfl | rfl | rfl<;>rfl
 ·rw [if_pos (by simp;omega),if_neg h]
theorem zJV {w:Int} (h:1≤w∧w≤8):1≤zA7 w∧zA7 w≤255:=by
 have:w=1∨w=2∨w=3∨w=4∨w=5∨w=6∨w=7∨w=8:=by omega
 rcases this with rfl | rfl | rfl | rfl | rfl | rfl | rfl | rfl<;>decide
theorem zAbm {n:Int} (h:J64 n):zGJ n=some (n.natAbs:Int):=by
 rw [zGJ,←zZL h,zJE]
 split<;>rfl
def zBh (n m w:Int):Int×Int×Int:=
 if (1≤w∧w≤8)∧0≤m∧(n.natAbs:Int)≤m then (if m=0 then (0,0,0) else (((n.natAbs*zA7 w/m.toNat:Nat):Int),((n.natAbs*zA7 w % m.toNat:Nat):Int),0)) else (0,0,1)
theorem zV9 {n m w:Int} (hn:J64 n) (hm:J64 m):zF9 n m w=some (zBh n m w):=by
 rw [zF9,zQS,zAb,orB,zBh]
 by_cases hw:1≤w∧w≤8
 ·rw [if_pos hw]
  simp only
  by_cases h0:m<0
  ·rw [if_pos (by simp [h0]),zAb,if_pos rfl,if_neg (by omega)]
  rw [if_neg (by simp [h0]),zAbm hn,zAb,zAb,u64_in m (by unfold J64 at hm;omega)]
  by_cases hc:(n.natAbs:Int)≤m
  ·rw [if_neg (by simp;omega),if_pos (show (1≤w∧w≤8)∧0≤m∧(n.natAbs:Int)≤m from ⟨hw,by omega,hc⟩)]
   by_cases hz:m=0
   ·rw [if_pos hz,if_pos hz]
   rw [if_neg hz,if_neg hz,zAb]
   obtain ⟨k,rfl⟩:∃k:Nat,m=(k:Int):=⟨m.toNat,by omega⟩
   have hst:=zJV hw
   unfold J64 at hm hn
   have hlt:n.natAbs*zA7 w/18446744073709551616<k:=by
    have h1:n.natAbs*zA7 w≤n.natAbs*255:=Nat.mul_le_mul_left _ hst.2
    omega
   obtain ⟨p,q,e1,e2⟩:= @zAac n.natAbs (zA7 w) k (by omega) (by omega) (by omega) hlt
   rw [e1,zAb]
   simp only
   rw [e2,zAb,Int.toNat_natCast]
  ·rw [if_pos (by simp;omega),if_neg (by omega)]
 ·rw [if_neg hw]
  simp only
  rw [if_pos (by simp),zAb,if_pos rfl,if_neg (by omega)]
theorem zOW {n m w:Int} (h:(zBh n m w).2.2=0):0≤(zBh n m w).1∧0≤(zBh n m w).2.1∧(zBh n m w).1≤(zA7 w:Int)∧(0<(zBh n m w).2.1→(zBh n m w).1<(zA7 w:Int))∧((zBh n m w).2.1<m∨m=0∧(zBh n m w).2.1=0):=by
 unfold zBh at*
 split at h
 ·rename_i hc
  rw [if_pos hc]
  split
  ·simp;omega
  ·rename_i hz
   obtain ⟨k,rfl⟩:∃k:Nat,m=(k:Int):=⟨m.toNat,by omega⟩
   simp only [Int.toNat_natCast]
   have hk:0<k:=by omega
   have hle:n.natAbs*zA7 w≤k*zA7 w:=Nat.mul_le_mul_right _ (by omega)
   have h1:n.natAbs*zA7 w/k≤zA7 w:=Nat.div_le_of_le_mul hle
   have h2:=Nat.mod_lt (n.natAbs*zA7 w) hk
   have h3:=Nat.div_add_mod (n.natAbs*zA7 w) k
   refine ⟨Int.natCast_nonneg _,Int.natCast_nonneg _,Int.ofNat_le.2 h1,fun hp=> ?_, .inl (Int.ofNat_lt.2 h2)⟩
   rcases Nat.lt_or_ge (n.natAbs*zA7 w/k) (zA7 w) with h | h
   ·exact Int.ofNat_lt.2 h
   ·exfalso
    have hp:=Int.natCast_pos.1 hp
    have:k*zA7 w≤k*(n.natAbs*zA7 w/k):=Nat.mul_le_mul_left _ h
    omega
 ·simp at h
def zGE (l m w:Int):Int×Int:=if (1≤w∧w≤8)∧0≤m∧l≤(zA7 w:Int) then (((m.toNat*l.toNat/zA7 w:Nat):Int),0) else (0,1)
theorem zWo {l m w:Int} (hw:1≤w∧w≤8) (hm:0≤m) (hl:l≤(zA7 w:Int)):((m.toNat*l.toNat/zA7 w:Nat):Int)≤m:=by
 have h1:m.toNat*l.toNat≤m.toNat*zA7 w:=Nat.mul_le_mul_left _ (by omega)
 rw [Nat.mul_comm m.toNat (zA7 w)] at h1
 have:=Nat.div_le_of_le_mul h1
 omega
theorem zAbC {l m w:Int} (hl:0≤l∧l≤18446744073709551615) (hm:J64 m):zHs l m w=some (zGE l m w):=by
 rw [zHs,zQS,zAb,orB,orB,zGE]
 by_cases hw:1≤w∧w≤8
 ·rw [if_pos hw]
  simp only
  by_cases h0:0≤m∧l≤(zA7 w:Int)
  ·rw [if_neg (by simp;omega),if_pos ⟨hw,h0⟩,u64_in m (by unfold J64 at hm;omega)]
   have hv:=zWo hw h0.1 h0.2
   obtain ⟨k,rfl⟩:∃k:Nat,m=(k:Int):=⟨m.toNat,by omega⟩
   obtain ⟨j,rfl⟩:∃j:Nat,l=(j:Int):=⟨l.toNat,by omega⟩
   have hst:=zJV hw
   unfold J64 at hm
   have hlt:k*j/18446744073709551616<zA7 w:=by
    have h1:k*j≤9223372036854775807*j:=Nat.mul_le_mul_right _ (by omega)
    omega
   obtain ⟨p,q,e1,e2⟩:= @zAac k j (zA7 w) (by omega) (by omega) (by omega) hlt
   rw [e1,zAb]
   simp only
   simp only [Int.toNat_natCast] at hv⊢
   generalize k*j/zA7 w=z at hv e2⊢
   rw [e2,zAb]
   simp only
   rw [i64_in _ (by omega)]
  ·rw [if_pos (by simp;omega),if_neg (fun h=>h0 h.2)]
 ·rw [if_neg hw]
  simp only
  rw [if_pos (by simp),if_neg (fun h=>hw h.1)]
end Go.Proofs.YtdgdgfckcnjpfaaGreat.Abs
