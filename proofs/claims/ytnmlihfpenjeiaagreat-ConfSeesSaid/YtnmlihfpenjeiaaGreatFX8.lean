/- Plain facts: powers of two of the table, the greatest one's place, shares (table, and the document's). Conditions: none. -/
import Derived.Test.YtnmlihfpenjeiaaGreatFX7
namespace Go.Proofs.YtnmlihfpenjeiaaGreat.Abs
open Go Go.RowKit Go.IntWalk
set_option linter.unusedVariables false
set_option linter.unusedSimpArgs false
set_option linter.unnecessarySimpa false
set_option maxRecDepth 100000
theorem shlI {k:Nat} (hk:k≤30):sShl .i64 1 (k:Int)=((2 ^ k:Nat):Int):=(by decide+kernel:∀i:Fin 31,sShl .i64 1 ((i.val:Nat):Int)=((2 ^ i.val:Nat):Int)) ⟨k,by omega⟩
theorem zZn {y k:Nat} (hy:y<9223372036854775808) (hk:k≤30):bAnd .i64 (y:Int) ((2 ^ k:Nat)-1:Int)=((y % 2 ^ k:Nat):Int):=by
 have hp:2 ^ k≤2 ^ 30:=Nat.pow_le_pow_right (by omega) hk
 have hq:0<2 ^ k:=Nat.pow_pos (by omega)
 unfold bAnd
 rw [show IntKind.i64.bits=64 from rfl,BitVec.toNat_and,BitVec.toNat_ofInt,BitVec.toNat_ofInt]
 have e1:((y:Int) % ((2 ^ 64:Nat):Int)).toNat=y:=by omega
 have e2:(((2 ^ k:Nat)-1:Int) % ((2 ^ 64:Nat):Int)).toNat=2 ^ k-1:=by omega
 rw [e1,e2,Nat.and_two_pow_sub_one_eq_mod]
 have:=Nat.mod_lt y hq
 exact i64_in _ (by omega)
theorem zQq {k:Nat} (h:k<17):∃m:Nat,at' expT (k:Int)=(m:Int)∧m≤1073741824∧1≤m:=by
 have:=(by decide+kernel:∀i:Fin 17,at' expT ((i.val:Nat):Int)=(((at' expT ((i.val:Nat):Int)).toNat:Nat):Int)∧(at' expT ((i.val:Nat):Int)).toNat≤1073741824∧1≤(at' expT ((i.val:Nat):Int)).toNat) ⟨k,h⟩
 exact ⟨_,this⟩
def expV (y:Nat) (f:Nat):Nat:=(at' expT ((y % 2 ^ f*16/2 ^ f:Nat):Int)).toNat/2 ^ (30-f+y/2 ^ f)
def expP (a f:Int):Int×Int:=if a< -9223372036854775807 then (0,2) else ((expV (-a).toNat f.toNat:Nat),0)
theorem zYY (y f:Nat):expV y f≤1073741824:=by
 have hq:0<2 ^ f:=Nat.pow_pos (by omega)
 have hm:=Nat.mod_lt y hq
 have hi:y % 2 ^ f*16/2 ^ f<17:=by rw [Nat.div_lt_iff_lt_mul hq];omega
 obtain ⟨m,h1,h2,_⟩:=zQq hi
 rw [expV,h1]
 exact Nat.le_trans (Nat.div_le_self _ _) (by omega)
theorem zZc (a f:Int):J64 (expP a f).1:=by
 unfold expP;split
 ·exact J0
 ·have:=zYY (-a).toNat f.toNat
  unfold J64;simp only;omega
theorem zYy {a:Int} (ha:J64 a):zKp a=some (ov (-a)):=by rw [zKp,zNp J0 ha,zAb,Int.zero_sub]
theorem zXy {a:Int} (ha:J64 a):zHh a=some (ov (-a)):=by rw [zHh,zLF J0 ha,zAb,Int.zero_sub]
theorem zY3 {m e:Nat} (hm:m≤1073741824) (h:63<e):m/2 ^ e=0:=by
 have:2 ^ 63≤2 ^ e:=Nat.pow_le_pow_right (by omega) (by omega)
 exact Nat.div_eq_of_lt (by omega)
theorem zYI {a f:Int} (ha:J64 a) (h0:a≤0) (hf:0≤f∧f≤30):zFM a f=some (expP a f):=by
 obtain ⟨k,rfl⟩:∃k:Nat,f=(k:Int):=⟨f.toNat,by omega⟩
 obtain ⟨y,hy⟩:∃y:Nat,a= -(y:Int):=⟨(-a).toNat,by omega⟩
 subst hy
 rw [zFM,orB,orB,if_neg (by simp only [Bool.or_eq_true,decide_eq_true_eq];omega),zYy ha,zAb,Int.neg_neg]
 by_cases hb: -(y:Int)< -9223372036854775807
 ·rw [zEy (by omega),if_pos (by decide),expP,if_pos hb]
 ·have hk:k≤30:=by omega
  have hy:y<9223372036854775808:=by omega
  have hp:2 ^ k≤2 ^ 30:=Nat.pow_le_pow_right (by omega) hk
  have hq:0<2 ^ k:=Nat.pow_pos (by omega)
  have hm:=Nat.mod_lt y hq
  have hi:y % 2 ^ k*16/2 ^ k<17:=by rw [Nat.div_lt_iff_lt_mul hq];omega
  obtain ⟨m,m1,m2,m3⟩:=zQq hi
  have hd:y/2 ^ k≤y:=Nat.div_le_self _ _
  rw [zF0 (by omega)]
  simp only
  rw [if_neg (by simp),if_pos (by omega),shlI hk,i64_in _ (by omega),zZn hy hk,zAb,if_pos (by omega),zZL,zAb]
  have e4:sShl .i64 ((y % 2 ^ k:Nat):Int) 4=((y % 2 ^ k*16:Nat):Int):=by
   rw [sShl,show min (4:Int).toNat IntKind.i64.bits=4 by decide,i64_in _ (by omega)];omega
  rw [e4,zJN (by omega),zJN (by omega),←Int.natCast_ediv,←Int.natCast_ediv]
  have hE:expP (-(y:Int)) (k:Int)=(((m/2 ^ (30-k+y/2 ^ k):Nat):Int),0):=by
   rw [expP,if_neg hb,expV,show (- -(y:Int)).toNat=y by omega,show ((k:Int)).toNat=k by omega,m1];rfl
  rw [hE]
  clear hE e4
  generalize y % 2 ^ k*16/2 ^ k=I at*
  generalize y/2 ^ k=d at*
  have eA:IntKind.u64.wrap (IntKind.u64.wrap (d:Int)+IntKind.u64.wrap (IntKind.i64.wrap (30-(k:Int))))=((30-k+d:Nat):Int):=by
   rw [i64_in _ (by omega),u64_in (d:Int) (by omega),u64_in (30-(k:Int)) (by omega),u64_in _ (by omega)];omega
  rw [eA]
  generalize hB:30-k+d=B at*
  rw [if_pos ⟨by omega,by omega⟩,if_pos (by omega)]
  simp only
  rw [show ([1073741824,1028218692,984625593,942880698,902905650,864625412,827968131,792864998,759250124,727060409,696235433,666717334,638450707,611382491,585461880,560640217,536870912]:List Int)=expT from rfl,m1]
  by_cases g:63<B
  ·rw [if_pos (show (63:Int)<(B:Int) by omega),if_pos (by omega),show (63:Int)=((63:Nat):Int) from rfl,shrU _ _ (by omega),zY3 m2 g,Nat.div_eq_of_lt (by omega)];rfl
  ·rw [if_neg (show ¬(63:Int)<(B:Int) by omega),if_pos (by omega),shrU _ _ (by omega)]
   have:=Nat.div_le_self m (2 ^ B)
   generalize m/2 ^ B=q at*
   rw [i64_in _ (by omega)]
theorem zTe (m j:Nat):m/2/2 ^ j=m/2 ^ (j+1):=by rw [Nat.div_div_eq_div_mul,Nat.pow_succ,Nat.mul_comm]
theorem zRc {f:Int} {r:Int×Int}:∀(j k m:Nat),30-f=((k+j:Nat):Int)→0≤f→m≤1073741824→zDD f r (k:Int) (m:Int)=some ((m/2 ^ j:Nat):Int)
 | 0,k,m,h,h0,hm=>by rw [zDD,i64_in (30-f) (by omega),if_neg (by omega)];simp
 | j+1,k,m,h,h0,hm=>by
  rw [zDD,i64_in (30-f) (by omega),if_pos (by omega),zAJ (by omega),show Int.tdiv (m:Int) 2=((m/2:Nat):Int) from rfl,u64_in _ (by omega),zRc j (k+1) (m/2) (by omega) h0 (by omega),zTe]
theorem zQ9 {f:Int} {r:Int×Int} {W:Nat} (hw:IntKind.i64.wrap (Int.tdiv r.1 (sShl .i64 1 f))=(W:Int)) (hW:W<9223372036854775808):∀(b k m:Nat),m<2 ^ b→b≤40→k≤W→zDG f r (k:Int) (m:Int)=some ((m/2 ^ (W-k):Nat):Int)
 | 0,k,m,hm,hb,hk=>by
  have:m=0:=by simpa using hm
  subst this
  rw [zDG,andB,if_neg (by simp)];simp
 | b+1,k,m,hm,hb,hk=>by
  have hp:2 ^ (b+1)≤2 ^ 40:=Nat.pow_le_pow_right (by omega) hb
  rw [zDG,andB,hw]
  by_cases g:k<W∧0<m
  ·rw [if_pos (by simp only [Bool.and_eq_true,decide_eq_true_eq];omega),zAJ (by omega),show Int.tdiv (m:Int) 2=((m/2:Nat):Int) from rfl,u64_in _ (by omega),zQ9 hw hW b (k+1) (m/2) (by rw [Nat.pow_succ] at hm;omega) (by omega) (by omega),zTe,show W-(k+1)+1=W-k by omega]
  ·rw [if_neg (by simp only [Bool.and_eq_true,decide_eq_true_eq];omega)]
   by_cases g2:m=0
   ·subst g2;simp
   ·rw [show W-k=0 by omega];simp
theorem zV5 {a f:Int} (ha:J64 a) (h0:a≤0) (hf:0≤f∧f≤30):zHd a f=some (expP a f):=by
 obtain ⟨k,rfl⟩:∃k:Nat,f=(k:Int):=⟨f.toNat,by omega⟩
 obtain ⟨y,hy⟩:∃y:Nat,a= -(y:Int):=⟨(-a).toNat,by omega⟩
 subst hy
 rw [zHd,orB,orB,if_neg (by simp only [Bool.or_eq_true,decide_eq_true_eq];omega),zXy ha,zAb,Int.neg_neg]
 by_cases hb: -(y:Int)< -9223372036854775807
 ·rw [zEy (by omega),if_pos (by decide),expP,if_pos hb]
 ·have hk:k≤30:=by omega
  have hy:y<9223372036854775808:=by omega
  have hp:2 ^ k≤2 ^ 30:=Nat.pow_le_pow_right (by omega) hk
  have hq:0<2 ^ k:=Nat.pow_pos (by omega)
  have hm:=Nat.mod_lt y hq
  have hi:y % 2 ^ k*16/2 ^ k<17:=by rw [Nat.div_lt_iff_lt_mul hq];omega
  obtain ⟨m,m1,m2,m3⟩:=zQq hi
  have hd:y/2 ^ k≤y:=Nat.div_le_self _ _
  have em:=Nat.div_le_self m (2 ^ (30-k))
  have hE:expP (-(y:Int)) (k:Int)=(((m/2 ^ (30-k+y/2 ^ k):Nat):Int),0):=by
   rw [expP,if_neg hb,expV,show (- -(y:Int)).toNat=y by omega,show ((k:Int)).toNat=k by omega,m1];rfl
  have ei:IntKind.i64.wrap (Int.tdiv (IntKind.i64.wrap (Int.tmod (y:Int) (sShl .i64 1 (k:Int))*16)) (sShl .i64 1 (k:Int)))=((y % 2 ^ k*16/2 ^ k:Nat):Int):=by
   rw [shlI hk,show Int.tmod (y:Int) ((2 ^ k:Nat):Int)=((y % 2 ^ k:Nat):Int) from rfl,i64_in (((y % 2 ^ k:Nat):Int)*16) (by generalize y % 2 ^ k=u at*;omega),show ((y % 2 ^ k:Nat):Int)*16=((y % 2 ^ k*16:Nat):Int) by omega,
    show Int.tdiv ((y % 2 ^ k*16:Nat):Int) ((2 ^ k:Nat):Int)=((y % 2 ^ k*16/2 ^ k:Nat):Int) from rfl]
   generalize y % 2 ^ k*16/2 ^ k=I at*
   rw [i64_in _ (by omega)]
  have ew:IntKind.i64.wrap (Int.tdiv (y:Int) (sShl .i64 1 (k:Int)))=((y/2 ^ k:Nat):Int):=by
   rw [shlI hk,show Int.tdiv (y:Int) ((2 ^ k:Nat):Int)=((y/2 ^ k:Nat):Int) from rfl]
   generalize y/2 ^ k=d at*
   rw [i64_in _ (by omega)]
  have hs:sShl .i64 1 (k:Int)≠0:=by rw [shlI hk];omega
  have l0:= @zRc (k:Int) ((y:Int),0) (30-k) 0 m (by omega) (by omega) m2
  have l1:= @zQ9 (k:Int) ((y:Int),0) (y/2 ^ k) ew (by generalize y/2 ^ k=d at*;omega) 40 0 (m/2 ^ (30-k)) (by generalize m/2 ^ (30-k)=q at*;omega) (by omega) (Nat.zero_le _)
  rw [Nat.div_div_eq_div_mul,←Nat.pow_add,Nat.sub_zero] at l1
  rw [show ((0:Nat):Int)=0 from rfl] at l0 l1
  rw [zF0 (by omega),hE]
  simp only
  rw [if_neg (by simp),if_pos (by omega),if_pos hs,if_pos hs,if_pos hs,zZN,zAb,ei,if_pos ⟨Int.natCast_nonneg _,by rw [show (expT.length:Int)=17 from rfl];generalize y % 2 ^ k*16/2 ^ k=I at*;omega⟩,zAb,m1,l0,zAb,l1,zAb]
  have:=Nat.div_le_self m (2 ^ (30-k+y/2 ^ k))
  generalize m/2 ^ (30-k+y/2 ^ k)=q at*
  rw [i64_in _ (by omega)]
end Go.Proofs.YtnmlihfpenjeiaaGreat.Abs
