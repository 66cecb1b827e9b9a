/- Plain facts: the document's sums, products. Conditions: none. -/
import Derived.Test.YtnmlihfpenjeiaaGreatFX2
namespace Go.Proofs.YtnmlihfpenjeiaaGreat.Abs
open Go Go.RowKit Go.IntWalk
set_option linter.unusedVariables false
set_option linter.unusedSimpArgs false
set_option linter.unnecessarySimpa false
set_option maxRecDepth 100000
theorem zKt {a:Int} (h:J64 a):zDw a=some (a.natAbs:Int):=by
 rw [zDw];unfold J64 at h
 split
 ·congr 1;simp only [IntKind.wrap_u64,IntKind.wrap_i64];omega
 ·congr 1;simp only [IntKind.wrap_u64];omega
theorem zTy {a:Int} (h:J64 a):zGC a=some (a.natAbs:Int):=by
 rw [zGC];unfold J64 at h
 split
 ·congr 1;simp only [IntKind.wrap_u64];omega
 ·congr 1;simp only [IntKind.wrap_u64];omega
theorem zF0 {x:Int} (h: -9223372036854775808≤x∧x≤9223372036854775807):ov x=(x,0):=by rw [ov,if_pos (show J64 x from h)]
theorem zEy {x:Int} (h:¬(-9223372036854775808≤x∧x≤9223372036854775807)):ov x=(0,2):=by rw [ov,if_neg (show ¬J64 x from h)]
theorem zOj {a b:Int} (ha:J64 a) (hb:J64 b):zEt a b=some (ov (a+b)):=by
 rw [zEt,andB];unfold J64 at*
 by_cases h1:b>0
 ·rw [i64_in (9223372036854775807-b) (by omega)]
  by_cases h2:a>9223372036854775807-b
  ·rw [if_pos (by simp;omega),zEy (by omega)]
  ·rw [if_neg (by simp;omega),if_neg (by omega),zF0 (by omega),i64_in _ (by omega)]
 ·rw [if_neg (by simp;omega)]
  by_cases h2:b<0
  ·rw [if_pos h2,i64_in (-9223372036854775808-b) (by omega)]
   by_cases h3:a< -9223372036854775808-b
   ·rw [if_pos h3,zEy (by omega)]
   ·rw [if_neg h3,zF0 (by omega),i64_in _ (by omega)]
  ·rw [if_neg h2,zF0 (by omega),i64_in _ (by omega)]
theorem zLF {a b:Int} (ha:J64 a) (hb:J64 b):zDK a b=some (ov (a-b)):=by
 rw [zDK,andB];unfold J64 at*
 by_cases h1:b<0
 ·rw [i64_in (9223372036854775807+b) (by omega)]
  by_cases h2:a>9223372036854775807+b
  ·rw [if_pos (by simp;omega),zEy (by omega)]
  ·rw [if_neg (by simp;omega),if_neg (by omega),zF0 (by omega),i64_in _ (by omega)]
 ·rw [if_neg (by simp;omega)]
  by_cases h2:b>0
  ·rw [if_pos h2,i64_in (-9223372036854775808+b) (by omega)]
   by_cases h3:a< -9223372036854775808+b
   ·rw [if_pos h3,zEy (by omega)]
   ·rw [if_neg h3,zF0 (by omega),i64_in _ (by omega)]
  ·rw [if_neg h2,zF0 (by omega),i64_in _ (by omega)]
theorem zQg {a b:Nat} (ha:a<18446744073709551616) (hb:b<18446744073709551616):zEC (a:Int) (b:Int)=some (((a*b/18446744073709551616:Nat):Int),((a*b % 18446744073709551616:Nat):Int)):=by
 have hs:=zRd a b
 have x1:a/4294967296<4294967296:=by omega
 have x0:a % 4294967296<4294967296:=by omega
 have y1:b/4294967296<4294967296:=by omega
 have y0:b % 4294967296<4294967296:=by omega
 have m11:=zFC x1 y1
 have m10:=zFC x1 y0
 have m01:=zFC x0 y1
 have m00:=zFC x0 y0
 rw [zEC,zF5 a ha,zF5 b hb,zFF a,zFF b,hs]
 simp only [←Int.natCast_mul]
 generalize a/4294967296*(b/4294967296)=p11 at*
 generalize a/4294967296*(b % 4294967296)=p10 at*
 generalize a % 4294967296*(b/4294967296)=p01 at*
 generalize a % 4294967296*(b % 4294967296)=p00 at*
 rw [u64N (n:=p00) (by omega),u64N (n:=p10) (by omega),u64N (n:=p11) (by omega),u64N (n:=p01) (by omega),zFF,←Int.natCast_add,u64N (n:=p10+p00/4294967296) (by omega),zFF,zF5 _ (by omega),zF5 p00 (by omega),←Int.natCast_add,u64N (n:=p11+_) (by omega),←Int.natCast_add,u64N (n:=p01+_) (by omega),zFF,←Int.natCast_add,u64N (by omega)]
 have hsl:=shlU (p01+(p10+p00/4294967296) % 4294967296) 32 (by omega)
 rw [show ((32:Nat):Int)=32 from rfl,show (2:Nat) ^ 32=4294967296 from rfl] at hsl
 have hx:(p01+(p10+p00/4294967296) % 4294967296)*4294967296 % 18446744073709551616=2 ^ 32*((p01+(p10+p00/4294967296) % 4294967296) % 4294967296):=by omega
 rw [hsl,hx,orU (by omega) (by omega),←Nat.two_pow_add_eq_or_of_lt (by omega)]
 congr 2
 ·omega
 ·omega
theorem zYh {x:Int} (h:0≤x∧x<18446744073709551616):bXor .u64 (if IntKind.signed .u64 then -1 else IntKind.max .u64) x=18446744073709551615-x:=by
 unfold bXor
 rw [show IntKind.u64.bits=64 from rfl,show BitVec.ofInt 64 (if IntKind.signed .u64 then -1 else IntKind.max .u64)=BitVec.allOnes 64 by decide,BitVec.allOnes_xor,BitVec.toNat_not,BitVec.toNat_ofInt,IntKind.wrap_u64]
 omega
theorem zZg {a b:Int}:((a.natAbs*b.natAbs:Nat):Int)=if (decide (a<0))=(decide (b<0)) then a*b else -(a*b):=by
 rw [Int.natCast_mul]
 by_cases h1:a<0<;>by_cases h2:b<0
 ·rw [show ((a.natAbs:Nat):Int)= -a by omega,show ((b.natAbs:Nat):Int)= -b by omega];simp [h1,h2,Int.neg_mul_neg]
 ·rw [show ((a.natAbs:Nat):Int)= -a by omega,show ((b.natAbs:Nat):Int)=b by omega];simp [h1,h2,Int.neg_mul]
 ·rw [show ((a.natAbs:Nat):Int)=a by omega,show ((b.natAbs:Nat):Int)= -b by omega];simp [h1,h2,Int.mul_neg]
 ·rw [show ((a.natAbs:Nat):Int)=a by omega,show ((b.natAbs:Nat):Int)=b by omega];simp [h1,h2,Int.neg_mul_neg]
theorem zWn {a b:Int} (ha:J64 a) (hb:J64 b):zGN a b=some (a*b/18446744073709551616,a*b % 18446744073709551616):=by
 have hn:= @zZg a b
 have hle:a.natAbs*b.natAbs≤9223372036854775808*9223372036854775808:=by
  unfold J64 at*;exact Nat.mul_le_mul (by omega) (by omega)
 rw [zGN,zKt ha,zAb,zKt hb,zAb,zQg (by unfold J64 at ha;omega) (by unfold J64 at hb;omega),zAb]
 simp only
 generalize a.natAbs*b.natAbs=P at*
 generalize a*b=q at*
 by_cases hs:(decide (a<0))=(decide (b<0))
 ·rw [if_pos hs] at hn⊢
  rw [i64_in _ (by omega)]
  congr 2
  ·omega
  ·omega
 ·rw [if_neg hs] at hn⊢
  rw [zYh (by omega),zYh (by omega),zAb,zAb]
  by_cases h0:P % 18446744073709551616=0
  ·rw [if_pos (by simp only [IntKind.wrap_u64];omega)]
   congr 2
   ·simp only [IntKind.wrap_u64,IntKind.wrap_i64];omega
   ·simp only [IntKind.wrap_u64];omega
  ·rw [if_neg (by simp only [IntKind.wrap_u64];omega)]
   congr 2
   ·simp only [IntKind.wrap_u64,IntKind.wrap_i64];omega
   ·simp only [IntKind.wrap_u64];omega
theorem zZS {x:Int}:bAnd .i64 x 1=x % 2:=by
 unfold bAnd
 rw [show IntKind.i64.bits=64 from rfl,BitVec.toNat_and,BitVec.toNat_ofInt,BitVec.toNat_ofInt,IntKind.wrap_i64]
 have e2:((1:Int) % ((2 ^ 64:Nat):Int)).toNat=1:=by omega
 rw [e2,Nat.and_one_is_mod]
 omega
theorem zSj (f:Int):∀(j k:Nat) (q:Int),f=((k+j:Nat):Int)→f≤30→zDE f (k:Int) (q % 18446744073709551616) (q/18446744073709551616)=some ((q/((2 ^ j:Nat):Int)) % 18446744073709551616,(q/((2 ^ j:Nat):Int))/18446744073709551616)
 | 0,k,q,hf,hm=>by rw [zDE,if_neg (by omega)];simp
 | j+1,k,q,hf,hm=>by
  obtain ⟨m,hm'⟩:∃m:Nat,q % 18446744073709551616=(m:Int):=⟨(q % 18446744073709551616).toNat,by omega⟩
  obtain ⟨b,hb⟩:∃b:Nat,(q/18446744073709551616) % 2=(b:Int):=⟨((q/18446744073709551616) % 2).toNat,by omega⟩
  have ih:=zSj f j (k+1) (q/2) (by omega) hm
  have s1:=shrU m 1 (by omega)
  have s2:=shlU b 63 (by omega)
  have s3:=zJN (x:=q/18446744073709551616) (k:=1) (by omega)
  rw [show ((1:Nat):Int)=1 from rfl] at s1 s3
  rw [show ((63:Nat):Int)=63 from rfl,show b*2 ^ 63 % 18446744073709551616=2 ^ 63*b by omega] at s2
  rw [zDE,if_pos (by omega),zZS,hm',hb,u64N (by omega),s1,s2,s3,orU (by omega) (by omega),Nat.or_comm,←Nat.two_pow_add_eq_or_of_lt (by omega),zAb,zAJ (by omega)]
  rw [show (((2 ^ 63*b+m/2 ^ 1:Nat)):Int)=q/2 % 18446744073709551616 by omega,show q/18446744073709551616/((2 ^ 1:Nat):Int)=q/2/18446744073709551616 by omega,ih,Int.ediv_ediv_of_nonneg (by omega),show (2:Int)*((2 ^ j:Nat):Int)=((2 ^ (j+1):Nat):Int) by rw [Nat.pow_succ];omega]
theorem zOC {a b f:Int} (ha:J64 a) (hb:J64 b):zEo a b f=some (mulP a b f):=by
 rw [zEo,orB,mulP]
 by_cases h:0≤f∧f≤30
 rotate_left
 ·rw [if_pos (by simp;omega),if_neg h]
 rw [if_neg (by simp;omega),if_pos h,zWn ha hb,zAb]
 simp only
 obtain ⟨k,rfl⟩:∃k:Nat,f=(k:Int):=⟨f.toNat,by omega⟩
 have hl:=zSj (k:Int) k 0 (a*b) (by omega) (by omega)
 rw [show ((0:Nat):Int)=0 from rfl] at hl
 rw [hl,zAb,Int.toNat_natCast]
 simp only
 generalize a*b/((2 ^ k:Nat):Int)=p
 have hs:sShr .i64 (IntKind.i64.wrap (p % 18446744073709551616)) 63=IntKind.i64.wrap (p % 18446744073709551616)/9223372036854775808:=by
  have:=zJN (x:=IntKind.i64.wrap (p % 18446744073709551616)) (k:=63) (by omega)
  rw [show ((63:Nat):Int)=63 from rfl] at this
  rw [this];rfl
 rw [hs]
 have key:p/18446744073709551616=IntKind.i64.wrap (p % 18446744073709551616)/9223372036854775808↔J64 p:=by
  unfold J64;rw [IntKind.wrap_i64];omega
 by_cases h:J64 p
 ·rw [if_neg (by simp [key.2 h]),if_pos h]
  congr 2
  unfold J64 at h;rw [IntKind.wrap_i64];omega
 ·rw [if_pos (fun e=>h (key.1 e)),if_neg h]
end Go.Proofs.YtnmlihfpenjeiaaGreat.Abs
