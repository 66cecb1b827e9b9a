/- Plain facts: quotients (fix.Div, fix.Quot; the document's). Conditions: none. -/
import Derived.Test.YtnmlihfpenjeiaaGreatFX3
namespace Go.Proofs.YtnmlihfpenjeiaaGreat.Abs
open Go Go.RowKit Go.IntWalk
set_option linter.unusedVariables false
set_option linter.unusedSimpArgs false
set_option linter.unnecessarySimpa false
set_option maxRecDepth 100000
def divV (a b:Int) (q r:Nat):Int:=if (decide (a<0))=(decide (b<0)) then (q:Int) else if 0<r then -((q:Int)+1) else -(q:Int)
def divP (a b f:Int):Int×Int:=if (0≤f∧f≤30)∧b≠0 then ov (divV a b (a.natAbs*2 ^ f.toNat/b.natAbs) (a.natAbs*2 ^ f.toNat % b.natAbs)) else (0,1)
theorem zSk {a b:Int} {q r:Nat} (h:18446744073709551615≤q):ov (divV a b q r)=(0,2):=by
 unfold divV;apply zEy;split
 ·omega
 ·split<;>omega
theorem shl1 {k:Nat} (hk:k≤30):sShl .u64 1 (k:Int)=((2 ^ k:Nat):Int)∧2 ^ k<18446744073709551616:=by
 have:=shlU 1 k (by omega)
 have h:2 ^ k≤2 ^ 30:=Nat.pow_le_pow_right (by omega) hk
 rw [show ((1:Nat):Int)=1 from rfl] at this
 rw [this,Nat.one_mul,Nat.mod_eq_of_lt (by omega)]
 exact ⟨rfl,by omega⟩
theorem zUt {n d:Nat} (h:d≤n/18446744073709551616) (hd:0<d):18446744073709551616≤n/d:=by
 rw [Nat.le_div_iff_mul_le hd]
 have:d*18446744073709551616≤n/18446744073709551616*18446744073709551616:=Nat.mul_le_mul_right _ h
 omega
theorem zUP {n d:Nat} (h:n/18446744073709551616<d):n/d<18446744073709551616:=by
 rw [Nat.div_lt_iff_lt_mul (by omega)]
 have:(n/18446744073709551616+1)*18446744073709551616≤d*18446744073709551616:=Nat.mul_le_mul_right _ h
 omega
theorem zL3 {q:Int} (h:0≤q∧q≤9223372036854775808):IntKind.i64.wrap (IntKind.u64.wrap (0-q))= -q:=by
 rw [IntKind.wrap_u64,IntKind.wrap_i64];omega
theorem zU5 {a b f:Int} (ha:J64 a) (hb:J64 b):zGp a b f=some (divP a b f):=by
 rw [zGp,zF4,andB,zAb,orB,divP]
 by_cases h:(0≤f∧f≤30)∧b≠0
 rotate_left
 ·rw [if_pos (by simp;omega),if_neg h]
 obtain ⟨k,rfl⟩:∃k:Nat,f=(k:Int):=⟨f.toNat,by omega⟩
 have hk:= @shl1 k (by omega)
 have hA:a.natAbs<18446744073709551616:=by unfold J64 at ha;omega
 have hB:b.natAbs<18446744073709551616∧0<b.natAbs:=by unfold J64 at hb;omega
 rw [if_neg (by simp;omega),if_pos h,if_pos h.1.1,zTy ha,zAb,hk.1,zS9 hA hk.2,zAb,zTy hb,zAb,Int.toNat_natCast]
 simp only
 generalize hn:a.natAbs*2 ^ k=n
 by_cases hc:b.natAbs≤n/18446744073709551616
 ·rw [if_pos (by omega),zSk (by have:=zUt hc hB.2;omega)]
 rw [if_neg (by omega),zAb,zXv (by omega) hB.1 (by omega),zAb,show n/18446744073709551616*18446744073709551616+n % 18446744073709551616=n by omega]
 have hq:= @zUP n b.natAbs (by omega)
 simp only
 generalize n/b.natAbs=q at*
 generalize n % b.natAbs=r at*
 unfold divV
 by_cases hs:(decide (a<0))=(decide (b<0))
 ·rw [if_neg (by simp [hs]),if_pos hs]
  by_cases c:(q:Int)>9223372036854775807
  ·rw [if_pos c,zEy (by omega)]
  ·rw [if_neg c,zF0 (by omega),i64_in _ (by omega)]
 ·rw [if_pos (by simpa using hs),if_neg hs,show IntKind.u64.wrap (9223372036854775807+1)=9223372036854775808 by decide]
  by_cases hr:0<r
  ·rw [if_pos (by omega),if_pos hr]
   by_cases c:(q:Int)≥9223372036854775808
   ·rw [if_pos c,zEy (by omega)]
   ·rw [if_neg c,u64_in ((q:Int)+1) (by omega),if_neg (by omega),zF0 (by omega),zL3 (by omega)]
  ·rw [if_neg (by omega),if_neg hr]
   by_cases c:(q:Int)>9223372036854775808
   ·rw [if_pos c,zEy (by omega)]
   ·rw [if_neg c,zF0 (by omega),zL3 (by omega)]
theorem zXm {a b:Int} (ha:J64 a) (hb:J64 b):zJp a b=some (divP a b 0):=by
 rw [zJp,zU5 ha hb,zAb]
theorem zYi {i:Nat} (h:i<128):bAnd .i64 (i:Int) 63=((i % 64:Nat):Int):=by
 have:=(by decide+kernel:∀i:Fin 128,bAnd .i64 ((i.val:Nat):Int) 63=((i.val % 64:Nat):Int)) ⟨i,h⟩
 exact this
theorem zQ5 {n d t:Nat} (hd:0<d) (ht:t<2):(d≤2*(n % d)+t→(2*n+t)/d=2*(n/d)+1∧(2*n+t) % d=2*(n % d)+t-d)∧(¬d≤2*(n % d)+t→(2*n+t)/d=2*(n/d)∧(2*n+t) % d=2*(n % d)+t):=by
 have e:=Nat.div_add_mod n d
 have hl:=Nat.mod_lt n hd
 have e2:2*n+t=(2*(n % d)+t)+d*(2*(n/d)):=by
  have:d*(2*(n/d))=2*(d*(n/d)):=by rw [Nat.mul_left_comm]
  omega
 rw [e2,Nat.add_mul_div_left _ _ hd,Nat.add_mul_mod_self_left]
 generalize n % d=r at*
 refine ⟨fun h=> ?_,fun h=> ?_⟩
 ·have e3:2*r+t=(2*r+t-d)+d*1:=by omega
  rw [e3,Nat.add_mul_div_left _ _ hd,Nat.add_mul_mod_self_left,Nat.div_eq_of_lt (by omega),Nat.mod_eq_of_lt (by omega)]
  omega
 ·rw [Nat.div_eq_of_lt (by omega),Nat.mod_eq_of_lt (by omega)]
  omega
theorem zOp (N i:Nat):N/2 ^ i=2*(N/2 ^ (i+1))+N/2 ^ i % 2:=by
 rw [Nat.pow_succ,←Nat.div_div_eq_div_mul];omega
theorem zZf {hi lo i:Nat} (h:i<64):(hi*18446744073709551616+lo)/2 ^ i % 2=lo/2 ^ i % 2:=by
 have e:hi*18446744073709551616=2 ^ i*(2*(hi*2 ^ (63-i))):=by
  have:2 ^ i*(2*(hi*2 ^ (63-i)))=hi*(2 ^ (i+1)*2 ^ (63-i)):=by rw [Nat.pow_succ];simp only [Nat.mul_assoc,Nat.mul_left_comm,Nat.mul_comm]
  rw [this,←Nat.pow_add,show i+1+(63-i)=64 by omega]
 rw [e,Nat.mul_add_div (Nat.two_pow_pos i)];omega
theorem zZ2 {hi lo i:Nat} (hl:lo<18446744073709551616) (h:64≤i):(hi*18446744073709551616+lo)/2 ^ i=hi/2 ^ (i-64):=by
 rw [show (2:Nat) ^ i=2 ^ 64*2 ^ (i-64) by rw [←Nat.pow_add,show 64+(i-64)=i by omega],←Nat.div_div_eq_div_mul]
 congr 1;omega
theorem zX6 {m:Nat} (h:m<18446744073709551616):bAnd .u64 (m:Int) 1=((m % 2:Nat):Int):=by
 unfold bAnd
 rw [show IntKind.u64.bits=64 from rfl,BitVec.toNat_and,BitVec.toNat_ofInt,BitVec.toNat_ofInt,IntKind.wrap_u64]
 have e2:((1:Int) % ((2 ^ 64:Nat):Int)).toNat=1:=by omega
 rw [e2,Nat.and_one_is_mod]
 omega
theorem zUn {r t:Nat} (hr:r<9223372036854775808) (ht:t<2):bOr .u64 (sShl .u64 (r:Int) 1) (t:Int)=((2*r+t:Nat):Int):=by
 have s2:=shlU r 1 (by omega)
 rw [show ((1:Nat):Int)=1 from rfl,show r*2 ^ 1 % 18446744073709551616=2 ^ 1*r by omega] at s2
 rw [s2,orU (by omega) (by omega),←Nat.two_pow_add_eq_or_of_lt (by omega)]
theorem zQH {hi lo d:Nat} (hh:hi<18446744073709551616) (hl:lo<18446744073709551616) (hd:0<d) (hd2:d≤9223372036854775808) (flag:Bool):
  ∀(j quo:Nat),j≤64→quo<18446744073709551616→(flag=true→quo=2 ^ j*((hi*18446744073709551616+lo)/2 ^ j/d))→
   ∃z:Nat,zAR (hi:Int) (lo:Int) (d:Int) ((j:Int)-1) flag (((hi*18446744073709551616+lo)/2 ^ j % d:Nat):Int) (quo:Int)=some (flag,(((hi*18446744073709551616+lo) % d:Nat):Int),(z:Int))∧(flag=true→z=(hi*18446744073709551616+lo)/d)
 | 0,quo,hj,hq,hf=>by
  refine ⟨quo, ?_, ?_⟩
  ·rw [zAR,if_neg (by omega)];simp
  ·intro h;have:=hf h;simpa using this
 | i+1,quo,hj,hq,hf=>by
  have hb:=zOp (hi*18446744073709551616+lo) i
  have ht:(hi*18446744073709551616+lo)/2 ^ i % 2<2:=Nat.mod_lt _ (by omega)
  have hbl:= @zZf hi lo i (by omega)
  have hr:(hi*18446744073709551616+lo)/2 ^ (i+1) % d<d:=Nat.mod_lt _ hd
  have s1:=shrU lo i (by omega)
  have s63:=shrU ((hi*18446744073709551616+lo)/2 ^ (i+1) % d) 63 (by omega)
  rw [show ((63:Nat):Int)=63 from rfl] at s63
  have hlo:lo/2 ^ i<18446744073709551616:=Nat.lt_of_le_of_lt (Nat.div_le_self _ _) hl
  have hp:2 ^ i<18446744073709551616:=by
   have:2 ^ i≤2 ^ 63:=Nat.pow_le_pow_right (by omega) (by omega)
   omega
  have os:= @zQ5 ((hi*18446744073709551616+lo)/2 ^ (i+1)) d ((hi*18446744073709551616+lo)/2 ^ i % 2) hd ht
  rw [←hb] at os
  rw [zAR,show (((i+1:Nat):Int)-1)=(i:Int) by omega,if_pos (by omega),zYi (by omega),if_pos (by omega),if_neg (by omega),Nat.mod_eq_of_lt (show i<64 by omega),s1,zX6 hlo,←hbl,zAb,s63,orB]
  rw [zUn (by omega) ht]
  have hI:IntKind.i64.wrap ((i:Int)-1)=(i:Int)-1:=i64_in _ (by omega)
  by_cases hc:d≤2*((hi*18446744073709551616+lo)/2 ^ (i+1) % d)+(hi*18446744073709551616+lo)/2 ^ i % 2
  ·obtain ⟨o1,o2⟩:=os.1 hc
   have sl:=shlU 1 i (by omega)
   rw [show ((1:Nat):Int)=1 from rfl,Nat.one_mul,Nat.mod_eq_of_lt hp] at sl
   have hor:quo ||| 2 ^ i<18446744073709551616:= @Nat.or_lt_two_pow quo (2 ^ i) 64 hq hp
   obtain ⟨z,z1,z2⟩:=zQH hh hl hd hd2 flag i (quo ||| 2 ^ i) (by omega) hor (fun h=>by
    rw [hf h,o1,←Nat.two_pow_add_eq_or_of_lt (by rw [Nat.pow_succ];have:=Nat.two_pow_pos i;omega),Nat.pow_succ,Nat.mul_add,Nat.mul_one,Nat.mul_assoc])
   refine ⟨z, ?_,z2⟩
   rw [if_pos (by simp only [Bool.or_eq_true,decide_eq_true_eq];right;omega),if_pos (by omega),if_pos (by omega),hI,sl,orU hq hp,u64_in _ (by omega),←z1,o2]
   congr 1;omega
  ·obtain ⟨o1,o2⟩:=os.2 hc
   have sl:=shlU 0 i (by omega)
   rw [show ((0:Nat):Int)=0 from rfl,Nat.zero_mul,Nat.zero_mod] at sl
   obtain ⟨z,z1,z2⟩:=zQH hh hl hd hd2 flag i quo (by omega) hq (fun h=>by
    rw [hf h,o1,Nat.pow_succ,Nat.mul_assoc])
   refine ⟨z, ?_,z2⟩
   have hq0:=orU hq (show 0<18446744073709551616 by omega)
   rw [Nat.or_zero] at hq0
   rw [if_neg (by simp only [Bool.or_eq_true,decide_eq_true_eq];omega),if_pos (by omega),if_pos (by omega),hI,sl,hq0,←z1,o2]
theorem zUR {hi lo d:Nat} (hh:hi<18446744073709551616) (hl:lo<18446744073709551616) (hd:0<d) (hd2:d≤9223372036854775808):
  ∀(j:Nat),j≤64→zAR (hi:Int) (lo:Int) (d:Int) (((64+j:Nat):Int)-1) (decide (hi/2 ^ j/d=0)) ((hi/2 ^ j % d:Nat):Int) 0=zAR (hi:Int) (lo:Int) (d:Int) 63 (decide (hi/d=0)) ((hi % d:Nat):Int) 0
 | 0,hj=>by simp
 | i+1,hj=>by
  have hb:=zOp hi i
  have ht:hi/2 ^ i % 2<2:=Nat.mod_lt _ (by omega)
  have hr:hi/2 ^ (i+1) % d<d:=Nat.mod_lt _ hd
  have s1:=shrU hi i (by omega)
  have s63:=shrU (hi/2 ^ (i+1) % d) 63 (by omega)
  rw [show ((63:Nat):Int)=63 from rfl] at s63
  have hlo:hi/2 ^ i<18446744073709551616:=Nat.lt_of_le_of_lt (Nat.div_le_self _ _) hh
  have os:= @zQ5 (hi/2 ^ (i+1)) d (hi/2 ^ i % 2) hd ht
  rw [←hb] at os
  have ih:=zUR hh hl hd hd2 i (by omega)
  rw [zAR,show (((64+(i+1):Nat):Int)-1)=((64+i:Nat):Int) by omega,if_pos (by omega),zYi (by omega),if_pos (by omega),if_pos (by omega),if_pos (by omega),show (64+i) % 64=i by omega,s1,zX6 hlo,zAb,s63,orB]
  rw [zUn (by omega) ht]
  have hI:IntKind.i64.wrap (((64+i:Nat):Int)-1)=((64+i:Nat):Int)-1:=i64_in _ (by omega)
  by_cases hc:d≤2*(hi/2 ^ (i+1) % d)+hi/2 ^ i % 2
  ·obtain ⟨o1,o2⟩:=os.1 hc
   rw [if_pos (by simp only [Bool.or_eq_true,decide_eq_true_eq];right;omega),if_neg (by omega),if_pos rfl,hI,u64_in _ (by omega),←ih,o1,o2,decide_eq_false (by omega)]
   congr 1;omega
  ·obtain ⟨o1,o2⟩:=os.2 hc
   rw [if_neg (by simp only [Bool.or_eq_true,decide_eq_true_eq];omega),if_neg (by omega),if_neg (by omega),hI,←ih,o1,o2]
   congr 1
   rw [decide_eq_decide];omega
theorem zYJ {hi lo d:Nat} (hh:hi<18446744073709551616) (hl:lo<18446744073709551616) (hd:0<d) (hd2:d≤9223372036854775808):
  ∃z:Nat,zGI (hi:Int) (lo:Int) (d:Int)=some ((z:Int),(((hi*18446744073709551616+lo) % d:Nat):Int),decide (hi/d=0))∧(hi/d=0→z=(hi*18446744073709551616+lo)/d):=by
 have h1:=zUR hh hl hd hd2 64 (by omega)
 rw [Nat.div_eq_of_lt (show hi<2 ^ 64 by omega),Nat.zero_div,Nat.zero_mod,decide_eq_true rfl] at h1
 have hN:(hi*18446744073709551616+lo)/2 ^ 64=hi:=by omega
 obtain ⟨z,z1,z2⟩:=zQH hh hl hd hd2 (decide (hi/d=0)) 64 0 (by omega) (by omega) (fun h=>by rw [hN,of_decide_eq_true h])
 refine ⟨z, ?_,fun h=>z2 (by simpa using h)⟩
 rw [hN] at z1
 rw [show (((64+64:Nat):Int)-1)=127 by omega,show ((0:Nat):Int)=0 from rfl] at h1
 rw [show (((64:Nat):Int)-1)=63 by omega,show ((0:Nat):Int)=0 from rfl] at z1
 rw [zGI,h1,z1,zAb]
theorem zSh {a b f:Int} (ha:J64 a) (hb:J64 b):zFs a b f=some (divP a b f):=by
 rw [zFs]
 simp only [orB]
 rw [divP]
 by_cases h:(0≤f∧f≤30)∧b≠0
 rotate_left
 ·rw [if_pos (by simp;omega),if_neg h]
 obtain ⟨k,rfl⟩:∃k:Nat,f=(k:Int):=⟨f.toNat,by omega⟩
 have hk:= @shl1 k (by omega)
 have hA:a.natAbs<18446744073709551616:=by unfold J64 at ha;omega
 have hB:b.natAbs≤9223372036854775808∧0<b.natAbs:=by unfold J64 at hb;omega
 rw [if_neg (by simp;omega),if_pos h,if_pos h.1.1,zKt ha,zAb,hk.1,zQg hA hk.2,zAb,zKt hb,zAb,Int.toNat_natCast]
 simp only
 have hlt:a.natAbs*2 ^ k/18446744073709551616<18446744073709551616:=by
  rw [Nat.div_lt_iff_lt_mul (by omega)];exact Nat.mul_lt_mul'' hA hk.2
 generalize hn:a.natAbs*2 ^ k=n at*
 obtain ⟨z,z1,z2⟩:=zYJ hlt (show n % 18446744073709551616<18446744073709551616 by omega) hB.2 hB.1
 rw [z1,zAb,show n/18446744073709551616*18446744073709551616+n % 18446744073709551616=n by omega]
 rw [show n/18446744073709551616*18446744073709551616+n % 18446744073709551616=n by omega] at z2
 simp only
 by_cases hc:b.natAbs≤n/18446744073709551616
 ·have:n/18446744073709551616/b.natAbs≠0:=by have:=Nat.div_pos hc hB.2;omega
  rw [if_pos (by simp [this]),zSk (by have:=zUt hc hB.2;omega)]
 have h0:n/18446744073709551616/b.natAbs=0:=Nat.div_eq_of_lt (by omega)
 have hq:= @zUP n b.natAbs (by omega)
 rw [h0]
 have hz:=z2 h0
 rw [←hz] at hq⊢
 generalize n % b.natAbs=r at*
 clear z1 z2 hz
 unfold divV
 by_cases hs:(decide (a<0))=(decide (b<0))
 ·rw [if_pos hs,if_pos hs]
  by_cases c:(z:Int)>9223372036854775808
  ·rw [if_pos (by simp;omega),zEy (by omega)]
  ·rw [if_neg (by simp;omega)]
   by_cases c2:(z:Int)=9223372036854775808
   ·rw [if_pos c2,zEy (by omega)]
   ·rw [if_neg c2,zF0 (by omega),i64_in _ (by omega)]
 ·rw [if_neg hs,if_neg hs]
  by_cases c:(z:Int)>9223372036854775808
  ·rw [if_pos (by simp;omega),zEy (by split<;>omega)]
  ·rw [if_neg (by simp;omega)]
   by_cases hr:0<r
   ·rw [if_pos (by omega),if_pos hr,u64_in ((z:Int)+1) (by omega)]
    by_cases c2:(z:Int)+1>9223372036854775808
    ·rw [if_pos c2,zEy (by omega)]
    ·rw [if_neg c2,zF0 (by omega),zL3 (by omega)]
   ·rw [if_neg (by omega),if_neg hr,if_neg c,zF0 (by omega),zL3 (by omega)]
theorem zXa {a b:Int} (ha:J64 a) (hb:J64 b):zGS a b=some (divP a b 0):=by
 rw [zGS,zSh ha hb,zAb]
end Go.Proofs.YtnmlihfpenjeiaaGreat.Abs
