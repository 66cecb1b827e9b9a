/- Plain facts: the document's sums, sizes, levels, signs. Conditions: none. -/
import Derived.Test.YtdgdgfckcnjpfaaGreatPV5
import Derived.Test.YtdgdgfckcnjpfaaGreatPR3
namespace Go.Proofs.YtdgdgfckcnjpfaaGreat.Abs
open Go Go.RowKit Go.IntWalk
set_option linter.unusedVariables false
set_option linter.unusedSimpArgs false
set_option linter.unnecessarySimpa false
set_option maxRecDepth 100000
theorem zZ8 {a b:Int} (ha:J64 a) (hb:J64 b):zDq a b=some (ov (a+b)):=by
 unfold J64 at ha hb
 rw [zDq,andB,ov]
 by_cases p:b>0
 ·rw [i64_in (9223372036854775807-b) (by omega)]
  by_cases q:a>9223372036854775807-b
  ·rw [if_pos (by simp [p,q]),if_neg (by unfold J64;omega)]
  ·have n:¬b<0:=by omega
   rw [if_neg (by simp [q]),if_neg n,if_pos (by unfold J64;omega),i64_in _ (by omega)]
 ·rw [if_neg (by simp [p])]
  by_cases n:b<0
  ·rw [if_pos n,i64_in (-9223372036854775808-b) (by omega)]
   by_cases q:a< -9223372036854775808-b
   ·rw [if_pos q,if_neg (by unfold J64;omega)]
   ·rw [if_neg q,if_pos (by unfold J64;omega),i64_in _ (by omega)]
  ·rw [if_neg n,if_pos (by unfold J64;omega),i64_in _ (by omega)]
theorem zZQ {a b:Int} (ha:J64 a) (hb:J64 b):zDn a b=some (ov (a-b)):=by
 unfold J64 at ha hb
 rw [zDn,andB,ov]
 by_cases p:b<0
 ·rw [i64_in (9223372036854775807+b) (by omega)]
  by_cases q:a>9223372036854775807+b
  ·rw [if_pos (by simp [p,q]),if_neg (by unfold J64;omega)]
  ·have n:¬b>0:=by omega
   rw [if_neg (by simp [q]),if_neg n,if_pos (by unfold J64;omega),i64_in _ (by omega)]
 ·rw [if_neg (by simp [p])]
  by_cases n:b>0
  ·rw [if_pos n,i64_in (-9223372036854775808+b) (by omega)]
   by_cases q:a< -9223372036854775808+b
   ·rw [if_pos q,if_neg (by unfold J64;omega)]
   ·rw [if_neg q,if_pos (by unfold J64;omega),i64_in _ (by omega)]
  ·rw [if_neg n,if_pos (by unfold J64;omega),i64_in _ (by omega)]
theorem zZT {a:Int} (ha:J64 a):zEt a=some (ov (a.natAbs:Int)):=by
 rw [zEt]
 by_cases c:a<0
 ·rw [if_pos c,zH7,zZQ (by unfold J64;omega) ha,zAb,zAb,show (0:Int)-a=(a.natAbs:Int) by omega]
 ·rw [if_neg c,ov,if_pos (by unfold J64 at*;omega)]
  congr 2;omega
theorem zAay (op:Int→Int→Int) (F:Int→List Int→Option (Sum ((List Int)×Int) (List Int))) (c:Int→Int→Option (Int×Int)) (a b:List Int)
  (hF:∀k acc,F k acc=if k<(a.length:Int) then if 0≤k∧k<(a.length:Int) then if 0≤k∧k<(b.length:Int) then (c (at' a k) (at' b k))>>=fun r2=>if r2.2≠0 then some (.inl ([],r2.2)) else if room 8 (acc++[r2.1]).length then F (IntKind.i64.wrap (k+1)) (acc++[r2.1]) else none else none else none else some (.inr acc))
  (ha:I64s a) (hb:I64s b) (hc:∀x y,J64 x→J64 y→c x y=some (ov (op x y))) (hl:a.length≤1000000) (he:a.length=b.length):
  ∀(t u:List Int) (k:Nat) (acc:List Int),a.drop k=t→b.drop k=u→acc.length≤k→F (k:Int) acc=some (if ∀n∈List.zipWith op t u,J64 n then .inr (acc++List.zipWith op t u) else .inl ([],2))
 | [],u,k,acc,h1,h2,h3=>by rw [hF,if_neg (zAp h1)];simp
 | x::t,[],k,acc,h1,h2,h3=>by
  have:=List.drop_eq_nil_iff.1 h2
  have:=(zAh h1).1
  omega
 | x::t,y::u,k,acc,h1,h2,h3=>by
  have g1:=zAh h1
  have g2:=zAh h2
  rw [hF,if_pos g1.1,if_pos (by omega),if_pos (by omega),g1.2.1,g2.2.1,hc x y (zGy ha h1) (zGy hb h2),zAb,ov]
  by_cases hx:J64 (op x y)
  ·rw [if_pos hx]
   simp only
   rw [if_neg (by simp),if_pos (zEy (by simp;omega)),zAx (by omega),zAay op F c a b hF ha hb hc hl he t u (k+1) _ g1.2.2 g2.2.2 (by simp;omega)]
   simp [hx]
  ·rw [if_neg hx];simp [hx]
theorem zAbS (a b:List Int):zEg a b=some (if 4096<a.length∨4096<b.length then 3 else if a.length≠b.length then 4 else 0):=by
 rw [zEg,orB]
 by_cases h:4096<a.length∨4096<b.length
 ·rw [if_pos h,if_pos (by simp;omega)]
 ·rw [if_neg h,if_neg (by simp;omega)]
  by_cases he:a.length≠b.length
  ·rw [if_pos (by omega),if_pos he]
  ·rw [if_neg (by omega),if_neg he]
theorem zAeX {a b:List Int} (ha:I64s a) (hb:I64s b):zLR a b=some (vecP (·+·) a b):=by
 rw [zLR,zAbS,zAb,vecP]
 by_cases h:4096<a.length∨4096<b.length
 ·rw [if_pos h,if_pos h];rfl
 by_cases he:a.length≠b.length
 ·rw [if_neg h,if_neg h,if_pos he,if_pos he];rfl
 rw [if_neg h,if_neg h,if_neg he,if_neg he,if_neg (by simp)]
 have:=zAay (·+·) (fun k acc=>zDk a b k acc) zDq a b (fun k acc=>by show zDk _ _ _ _=_;rw [zDk]) ha hb (fun x y hx hy=>zZ8 hx hy) (by omega) (by omega) a b 0 [] rfl rfl (by simp)
 simp only [List.nil_append] at this
 rw [show ((0:Nat):Int)=0 from rfl] at this
 rw [this,zAb,zPs]
 by_cases hz:∀n∈List.zipWith (·+·) a b,J64 n
 ·rw [if_pos hz,if_pos hz]
 ·rw [if_neg hz,if_neg hz]
theorem zAdc {a b:List Int} (ha:I64s a) (hb:I64s b):zGk a b=some (vecP (·-·) a b):=by
 rw [zGk,zAbS,zAb,vecP]
 by_cases h:4096<a.length∨4096<b.length
 ·rw [if_pos h,if_pos h];rfl
 by_cases he:a.length≠b.length
 ·rw [if_neg h,if_neg h,if_pos he,if_pos he];rfl
 rw [if_neg h,if_neg h,if_neg he,if_neg he,if_neg (by simp)]
 have:=zAay (·-·) (fun k acc=>zB4 a b k acc) zDn a b (fun k acc=>by show zB4 _ _ _ _=_;rw [zB4]) ha hb (fun x y hx hy=>zZQ hx hy) (by omega) (by omega) a b 0 [] rfl rfl (by simp)
 simp only [List.nil_append] at this
 rw [show ((0:Nat):Int)=0 from rfl] at this
 rw [this,zAb,zPs]
 by_cases hz:∀n∈List.zipWith (·-·) a b,J64 n
 ·rw [if_pos hz,if_pos hz]
 ·rw [if_neg hz,if_neg hz]
theorem zV7 (v:List Int) (hi:I64s v) (hl:v.length≤1000000):∀(t:List Int) (k:Nat) (acc:Int),v.drop k=t→0≤acc→J64 acc→
  zBT v (k:Int) acc=some (if J64 (acc+sumA t) then .inr (acc+sumA t) else .inl (0,2))
 | [],k,acc,h1,h2,h3=>by
  rw [zBT,if_neg (zAp h1)]
  simp [sumA,h3]
 | x::t,k,acc,h1,h2,h3=>by
  have g1:=zAh h1
  have hx:=zGy hi h1
  have hs:=zJK t
  rw [zBT,if_pos g1.1,if_pos (by omega),g1.2.1,zZT hx,zAb,ov,zQv]
  by_cases ha:J64 (x.natAbs:Int)
  ·rw [if_pos ha]
   simp only
   rw [if_neg (by simp),zZ8 h3 ha,zAb,ov]
   by_cases hb:J64 (acc+(x.natAbs:Int))
   ·rw [if_pos hb]
    simp only
    rw [if_neg (by simp),zAx (by omega),zV7 v hi hl t (k+1) _ g1.2.2 (by omega) hb,Int.add_assoc]
   ·have hn:¬J64 (acc+((x.natAbs:Int)+sumA t)):=by unfold J64 at*;omega
    rw [if_neg hb,if_neg hn]
    simp
  ·have hn:¬J64 (acc+((x.natAbs:Int)+sumA t)):=by unfold J64 at*;omega
   rw [if_neg ha,if_neg hn]
   simp
theorem zAbp {v:List Int} (hi:I64s v):zFy v=some (zF8 v):=by
 rw [zFy,zF8]
 by_cases h:4096<v.length
 ·rw [if_pos (by omega),if_pos h]
 rw [if_neg (by omega),if_neg h]
 have:=zV7 v hi (by omega) v 0 0 rfl (by omega) (by unfold J64;omega)
 rw [Int.zero_add] at this
 rw [show ((0:Nat):Int)=0 from rfl] at this
 rw [this]
 by_cases hs:J64 (sumA v)
 ·rw [if_pos hs,if_pos hs];rfl
 ·rw [if_neg hs,if_neg hs];rfl
theorem zV2 (v:List Int) (hi:I64s v) (hl:v.length≤1000000):∀(t:List Int) (k:Nat) (m:Int),v.drop k=t→
  zBU v (k:Int) m=some (if ∀n∈t,J64 (n.natAbs:Int) then .inr (zGi m t) else .inl (0,2))
 | [],k,m,h1=>by
  rw [zBU,if_neg (zAp h1)];simp [zGi]
 | x::t,k,m,h1=>by
  have g1:=zAh h1
  rw [zBU,if_pos g1.1,if_pos (by omega),g1.2.1,zZT (zGy hi h1),zAb,ov]
  by_cases ha:J64 (x.natAbs:Int)
  ·rw [if_pos ha]
   simp only
   rw [if_neg (by simp),zAx (by omega),zV2 v hi hl t (k+1) _ g1.2.2,zGi]
   simp [ha]
  ·rw [if_neg ha];simp [ha]
theorem zAce {v:List Int} (hi:I64s v):zFt v=some (zCa v):=by
 rw [zFt,zCa]
 by_cases h:4096<v.length
 ·rw [if_pos (by omega),if_pos h]
 rw [if_neg (by omega),if_neg h]
 have:=zV2 v hi (by omega) v 0 0 rfl
 rw [show ((0:Nat):Int)=0 from rfl] at this
 rw [this]
 by_cases hs:∀n∈v,J64 (n.natAbs:Int)
 ·rw [if_pos hs,if_pos hs];rfl
 ·rw [if_neg hs,if_neg hs];rfl
theorem zSH (w:Int):zDN w=some (if 1≤w∧w≤8 then ((zAH w:Int),0) else (0,1)):=by
 rw [zDN,orB]
 by_cases h:1≤w∧w≤8
 ·rw [if_neg (by simp;omega),if_pos (by omega),if_pos h]
  have:w=1∨w=2∨w=3∨w=4∨w=5∨w=6∨w=7∨w=8:=by omega
  rcases this with rfl | rfl | rfl | rfl | rfl | rfl | rfl | rfl<;>rfl
 ·rw [if_pos (by simp;omega),if_neg h]
theorem zWj {n:Int} (h:J64 n):zBX n=some (n.natAbs:Int):=by rw [zOR h,zQZ h]
theorem zAc8 {n s m:Nat} (hs:s≤m) (hm:0<m):if n % m+s≥m then (n+s)/m=n/m+1∧(n+s) % m=n % m+s-m else (n+s)/m=n/m∧(n+s) % m=n % m+s:=by
 have h1:=Nat.div_add_mod n m
 have h2:=Nat.mod_lt n hm
 split
 ·refine (Nat.div_mod_unique hm).2 ⟨?_,by omega⟩
  rw [Nat.mul_add];omega
 ·exact (Nat.div_mod_unique hm).2 ⟨by omega,by omega⟩
theorem zWg {n m:Int} {s k T:Nat} (hn:J64 n) (hs:n.natAbs=s) (hk:m=(k:Int)) (hm:J64 m) (h0:0<k) (hle:s≤k) (hT:T≤255):∀(j i:Nat),i+j=T→
  zBj n m ((T:Int),0) (i:Int) ((i*s % k:Nat):Int) ((i*s/k:Nat):Int)=some (((T*s % k:Nat):Int),((T*s/k:Nat):Int))
 | 0,i,h=>by
  rw [zBj,if_neg (by simp only;omega),show i=T by omega]
 | j+1,i,h=>by
  have hm':=hm
  unfold J64 at hm
  have hlt:=Nat.mod_lt (i*s) h0
  have hd:i*s/k≤255:=by
   refine Nat.le_trans (Nat.div_le_of_le_mul ?_) (show i≤255 by omega)
   rw [Nat.mul_comm k i];exact Nat.mul_le_mul_left _ hle
  have hq:= @zAc8 (i*s) s k hle h0
  have ih:=zWg hn hs hk hm' h0 hle hT j (i+1) (by omega)
  rw [Nat.succ_mul] at ih
  rw [zBj,if_pos (by simp only;omega),zWj hn,zAb,hs,u64_in (((i*s % k:Nat):Int)+(s:Int)) (by omega),u64_in m (by omega),hk,zAdl (by omega)]
  by_cases hc:i*s % k+s≥k
  ·rw [if_pos hc] at hq
   rw [if_pos (by omega),u64_in (((i*s % k:Nat):Int)+(s:Int)-(k:Int)) (by omega),zAb,zAdl (by omega),show ((i*s % k:Nat):Int)+(s:Int)-(k:Int)=((i*s % k+s-k:Nat):Int) by omega,←hq.1,←hq.2,←hk]
   exact ih
  ·rw [if_neg hc] at hq
   rw [if_neg (by omega),←Int.natCast_add,←hq.2]
   rw [hq.1] at ih
   rw [←hk]
   exact ih
theorem zAb0 {n m w:Int} (hn:J64 n) (hm:J64 m):zET n m w=some (zAL n m w):=by
 rw [zET,zSH,zAb,orB,zAL]
 by_cases hw:1≤w∧w≤8
 ·rw [if_pos hw]
  simp only
  by_cases h0:m<0
  ·rw [if_pos (by simp [h0]),zAb,if_pos rfl,if_neg (by omega)]
  rw [if_neg (by simp [h0]),zWj hn,zAb,zAb,u64_in m (by unfold J64 at hm;omega)]
  by_cases hc:(n.natAbs:Int)≤m
  ·rw [if_neg (by simp;omega),if_pos (show (1≤w∧w≤8)∧0≤m∧(n.natAbs:Int)≤m from ⟨hw,by omega,hc⟩)]
   by_cases hz:m=0
   ·rw [if_pos hz,if_pos hz]
   rw [if_neg hz,if_neg hz]
   obtain ⟨k,hk⟩:∃k:Nat,m=(k:Int):=⟨m.toNat,by omega⟩
   have hst:=zHj hw
   have hL:=zWg (n:=n) (m:=m) (s:=n.natAbs) (k:=k) (T:=zAH w) hn rfl hk hm (by omega) (by omega) hst.2 (zAH w) 0 (by omega)
   simp only [Nat.zero_mul,Nat.zero_mod,Nat.zero_div] at hL
   rw [show ((0:Nat):Int)=0 from rfl] at hL
   rw [hL,zAb,hk,Int.toNat_natCast,Nat.mul_comm n.natAbs]
  ·rw [if_pos (by simp;omega),if_neg (by omega)]
 ·rw [if_neg hw]
  simp only
  rw [if_pos (by simp),zAb,if_pos rfl,if_neg (by omega)]
theorem zAaw {v:List Int} (hi:I64s v):zFu v=some (zBS v):=by
 rw [zFu,zBS]
 by_cases h0:v.length=0
 ·rw [if_pos (by omega),if_pos h0]
 rw [if_neg (by omega),if_neg h0,zAbp hi,zAb]
 by_cases he:(zF8 v).2≠0
 ·rw [if_pos he]
  have:(zF8 v).1=0:=by
   unfold zF8 at*
   repeat' split at he
   all_goals first
    | exact absurd rfl he
    | skip
   ·rename_i h;rw [if_pos h]
   ·rename_i h1 h2;rw [if_neg h1,if_neg h2]
  rw [this,Int.zero_tdiv]
 ·have:=zTx v
  rw [zBS,if_neg h0] at this
  rw [if_neg he,if_pos (by omega),i64_in _ (by simp only at this;omega)]
  congr 2
  exact (by simpa using he:(zF8 v).2=0).symm
theorem zSl (v:List Int) (r1:Int×Int) (hl:v.length≤1000000):∀(t:List Int) (k:Nat) (acc:List Bool),v.drop k=t→acc.length≤k→zBB v r1 (k:Int) acc=some (acc++t.map fun x=>decide (x<0))
 | [],k,acc,h1,h2=>by rw [zBB,if_neg (zAp h1)];simp
 | x::t,k,acc,h1,h2=>by
  have g1:=zAh h1
  rw [zBB,if_pos g1.1,if_pos (by omega),g1.2.1,if_pos (zEx (by simp;omega)),zAb,zAx (by omega),zSl v r1 hl t (k+1) _ g1.2.2 (by simp;omega)]
  simp
theorem zY0 {v:List Int} (hi:I64s v) (hl:v.length≤1000000):zEQ v=some (zJp v):=by
 rw [zEQ,zAaw hi,zAb,zJp]
 by_cases h:(zBS v).2≠0
 ·rw [if_pos h,if_pos h]
 have:=zSl v (zBS v) hl v 0 [] rfl (by simp)
 rw [show ((0:Nat):Int)=0 from rfl] at this
 rw [if_neg h,if_neg h,this,zAb]
 rfl
theorem zAca {l m w:Int} (hl:0≤l∧l≤18446744073709551615) (hm:J64 m):zE4 l m w=some (zDz l m w):=by
 rw [zE4,zSH,zAb,orB,orB,zDz]
 by_cases hw:1≤w∧w≤8
 ·rw [if_pos hw]
  simp only
  by_cases h0:0≤m∧l≤(zAH w:Int)
  ·have hst:=zHj hw
   rw [if_neg (by simp;omega),if_pos (show (1≤w∧w≤8)∧0≤m∧l≤(zAH w:Int) from ⟨hw,h0⟩),u64_in m (by unfold J64 at hm;omega),if_pos (by omega),if_pos (by omega)]
   have hv:=zQU hw h0.1 h0.2
   obtain ⟨k,rfl⟩:∃k:Nat,m=(k:Int):=⟨m.toNat,by omega⟩
   obtain ⟨j,rfl⟩:∃j:Nat,l=(j:Int):=⟨l.toNat,by omega⟩
   simp only [Int.toNat_natCast] at hv⊢
   generalize hT:zAH w=T at*
   unfold J64 at hm
   have e1:Int.tmod (k:Int) (T:Int)=((k % T:Nat):Int):=rfl
   have e2:Int.tdiv (k:Int) (T:Int)=((k/T:Nat):Int):=rfl
   have hkm:=Nat.mod_lt k (show 0<T by omega)
   have hkd:=Nat.div_add_mod k T
   have hsplit:k*j/T=k/T*j+k % T*j/T:=by
    conv=>lhs;rw [←hkd,Nat.add_mul,Nat.mul_assoc]
    rw [Nat.mul_add_div (by omega)]
   have b1:k % T*j≤255*255:=Nat.mul_le_mul (by omega) (by omega)
   have b2:k/T*j≤k*j/T:=by rw [hsplit];exact Nat.le_add_right _ _
   have b3:k % T*j/T≤k*j/T:=by rw [hsplit];exact Nat.le_add_left _ _
   have hkT:k/T≤k:=Nat.div_le_self _ _
   rw [e1,e2,←Int.natCast_mul,u64N (n:=k % T*j) (by omega),zAb,u64N (n:=k/T) (by omega),←Int.natCast_mul,u64N (n:=k/T*j) (by omega),zAb,if_pos (by omega),show Int.tdiv ((k % T*j:Nat):Int) (T:Int)=((k % T*j/T:Nat):Int) from rfl,u64N (n:=k % T*j/T) (by omega),←Int.natCast_add,←hsplit,u64N (n:=k*j/T) (by omega),i64_in _ (by omega)]
  ·rw [if_pos (by simp;omega),if_neg (fun h=>h0 h.2)]
 ·rw [if_neg hw]
  simp only
  rw [if_pos (by simp),if_neg (fun h=>hw h.1)]
end Go.Proofs.YtdgdgfckcnjpfaaGreat.Abs
