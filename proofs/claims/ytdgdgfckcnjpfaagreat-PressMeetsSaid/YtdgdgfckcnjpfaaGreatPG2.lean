/- Plain facts: frames, part 2. Conditions: none. -/
import Derived.Test.YtdgdgfckcnjpfaaGreatPG1
namespace Go.Proofs.YtdgdgfckcnjpfaaGreat.Abs
open Go Go.RowKit Go.IntWalk Crc
set_option linter.unusedVariables false
set_option linter.unusedSimpArgs false
set_option linter.unusedSectionVars false
set_option linter.unnecessarySimpa false
set_option maxRecDepth 100000
set_option linter.unnecessarySimpa false
set_option linter.unusedSimpArgs false
set_option maxRecDepth 100000
set_option linter.unnecessarySimpa false
set_option linter.unusedSimpArgs false
set_option maxRecDepth 100000
set_option linter.unnecessarySimpa false
set_option linter.unusedSimpArgs false
set_option maxRecDepth 100000
theorem zTX (b:List Int) (k n:Nat) (hb:b.length≤140737488355328) (h:k+n≤b.length):zA9 ⟨⟨b,(k:Int)⟩,false⟩ (n:Int)=some ((b.drop k).take n,b,((k+n:Nat):Int),false):=by
 rw [zA9]
 simp only [Bool.false_eq_true,if_false]
 rw [i64_in ((b.length:Int)-k) (by omega),if_neg (by omega),i64_in ((k:Int)+n) (by omega),i64_in _ (by omega),if_pos (by simp only [cutOk,Option.getD_some];omega)]
 congr 1
 refine Prod.ext ?_ (Prod.ext rfl (Prod.ext (by simp) rfl))
 simp only [cut',Option.getD_some]
 rw [show ((k:Int)+n-n).toNat=k by omega,show ((k:Int)+n).toNat=k+n by omega]
 simp [List.drop_take]
theorem zYB (b:List Int) (k:Nat) {x:Int} {t:List Int} (hb:b.length≤140737488355328) (hx:0≤x∧x≤255) (h:b.drop k=x::t):zAB ⟨⟨b,(k:Int)⟩,false⟩=some (x,b,((k+1:Nat):Int),false):=by
 have g:=zAm h
 have hp:zA9 ⟨⟨b,(k:Int)⟩,false⟩ 1=some ([x],b,((k+1:Nat):Int),false):=by
  have:=zTX b k 1 hb (by omega)
  rw [h] at this;exact this
 rw [zAB,hp,zAb]
 show (if 0≤(0:Int)∧(0:Int)<(([x]:List Int).length:Int) then some (IntKind.i64.wrap (at' [x] 0),b,((k+1:Nat):Int),false) else none)=_
 rw [if_pos (by simp),zWH,i64_in _ (by omega)]
theorem zXB (b:List Int) (k:Nat) (most n at':Int) (hb:b.length≤140737488355328) (hu:U8s b) (hk:k≤b.length) (h:getP b (k:Int)=(n,at',0)) (hn:n≤most):zAx ⟨⟨b,(k:Int)⟩,false⟩ most=some (n,b,at',false):=by
 rw [zAx]
 simp only
 rw [zOa b k (by omega) hu (by omega),h,zAb,orB,orB,if_neg (by simp;omega)]
theorem zLq (b:List Int) (k:Int) (bad ok:Bool):zAT ⟨⟨b,k⟩,bad⟩ ok=some (b,k,bad|| !ok):=by
 rw [zAT,orB];simp
set_option linter.unusedSimpArgs false
set_option maxRecDepth 100000
def zGA (b:List Int):List (BitVec 8):=b.map fun x=>BitVec.ofNat 8 x.toNat
theorem zPH {b:List Int} (h:U8s b):(zGA b).map Yn=b:=by
 unfold zGA
 rw [List.map_map]
 conv=>rhs;rw [←List.map_id b]
 apply List.map_congr_left
 intro x hx
 have:=h x hx
 simp only [Function.comp,Yn,id]
 simp;omega
theorem zK7 (b:List Int):(zGA b).length=b.length:=by simp [zGA]
theorem zAas (bs:List (BitVec 8)):zGA (bs.map Yn)=bs:=by
 unfold zGA
 rw [List.map_map]
 conv=>rhs;rw [←List.map_id bs]
 apply List.map_congr_left
 intro x hx
 simp [Yn]
theorem YnU (b:List (BitVec 8)):U8s (b.map Yn):=by
 intro x hx
 obtain ⟨y,_,rfl⟩:=List.mem_map.1 hx
 have:=zAdM y;omega
def zMn (b:List Int):List Int:=(zG0 (zGA b)).map Yn
def zZn (b:List Int):List Int×Int:=((zOv (zGA b)).1.map Yn,(zOv (zGA b)).2)
theorem zVQ {b:List Int} (hu:U8s b) (h:b.length≤65532):zEB b=some (zMn b,0):=by
 have:=zYo (zGA b) (by rw [zK7];exact h)
 rwa [zPH hu] at this
theorem zAbd {b:List Int} (hu:U8s b) (h:b.length≤70000):zIi b=some (zZn b):=by
 have:=zAcS (zGA b) (by rw [zK7];exact h)
 rwa [zPH hu] at this
theorem zYK {b:List Int} (hu:U8s b) (h:b.length≤65532):zZn (zMn b)=(b,0):=by
 unfold zZn zMn
 rw [zAas,zZR (by rw [zK7];exact h),zPH hu]
theorem zZ4 (b:List Int):(zMn b).length=b.length+4:=by simp [zMn,zG0,zS5,zK7]
theorem zAbT (b:List Int):U8s (zMn b):=YnU _
theorem and1 {x:Int} (h:0≤x) (hx:x≤18446744073709551615):bAnd .u64 x 1=x % 2:=by
 unfold bAnd
 have e:IntKind.u64.bits=64:=rfl
 rw [e,BitVec.toNat_and,BitVec.toNat_ofInt,BitVec.toNat_ofInt,IntKind.wrap_u64]
 have e1:(x % ((2 ^ 64:Nat):Int)).toNat=x.toNat:=by omega
 have e2:((1:Int) % ((2 ^ 64:Nat):Int)).toNat=1:=by decide
 rw [e1,e2,Nat.and_one_is_mod]
 omega
theorem zAea {x:Int} (h:0≤x) (hx:x≤9223372036854775807):bAnd .i64 x 1=x % 2:=by
 unfold bAnd
 have e:IntKind.i64.bits=64:=rfl
 rw [e,BitVec.toNat_and,BitVec.toNat_ofInt,BitVec.toNat_ofInt,IntKind.wrap_i64]
 have e1:(x % ((2 ^ 64:Nat):Int)).toNat=x.toNat:=by omega
 have e2:((1:Int) % ((2 ^ 64:Nat):Int)).toNat=1:=by decide
 rw [e1,e2,Nat.and_one_is_mod]
 omega
set_option linter.unusedSimpArgs false
set_option maxRecDepth 100000
def zigP (x:Int):Int:=if 0≤x then 2*x else -2*x-1
def zagP (n:Int):Int:=if n % 2=0 then n/2 else -(n/2)-1
theorem zAcE (x:Int):zagP (zigP x)=x:=by unfold zagP zigP;repeat' split<;>omega
def I64 (x:Int):Prop:= -9223372036854775808≤x∧x≤9223372036854775807
theorem zYr {x:Int} (h:I64 x):0≤zigP x∧zigP x≤18446744073709551615:=by unfold I64 at h;unfold zigP;split<;>omega
theorem zZl {a:Int} (h0:0≤a) (h1:a≤18446744073709551615):bXor .u64 a 18446744073709551615=18446744073709551615-a:=by
 unfold bXor
 have e:IntKind.u64.bits=64:=rfl
 have e1:BitVec.ofInt 64 18446744073709551615=BitVec.allOnes 64:=by decide
 rw [e,e1,BitVec.xor_allOnes,BitVec.toNat_not,BitVec.toNat_ofInt,IntKind.wrap_u64]
 have e2:(a % ((2 ^ 64:Nat):Int)).toNat=a.toNat:=by omega
 rw [e2];omega
theorem zAdV {a:Int} (h0:0≤a) (h1:a≤18446744073709551615):bXor .u64 a 0=a:=by
 unfold bXor
 have e:IntKind.u64.bits=64:=rfl
 have e1:BitVec.ofInt 64 0=0#64:=by decide
 rw [e,e1,BitVec.xor_zero,BitVec.toNat_ofInt,IntKind.wrap_u64]
 omega
theorem zAdw {a:Int} (h0:0≤a) (h1:a≤9223372036854775807):bXor .i64 a (-1)= -1-a:=by
 unfold bXor
 have e:IntKind.i64.bits=64:=rfl
 have e1:BitVec.ofInt 64 (-1)=BitVec.allOnes 64:=by decide
 rw [e,e1,BitVec.xor_allOnes,BitVec.toNat_not,BitVec.toNat_ofInt,IntKind.wrap_i64]
 have e2:(a % ((2 ^ 64:Nat):Int)).toNat=a.toNat:=by omega
 rw [e2];omega
theorem zAc9 {a:Int} (h0:0≤a) (h1:a≤9223372036854775807):bXor .i64 a 0=a:=by
 unfold bXor
 have e:IntKind.i64.bits=64:=rfl
 have e1:BitVec.ofInt 64 0=0#64:=by decide
 rw [e,e1,BitVec.xor_zero,BitVec.toNat_ofInt,IntKind.wrap_i64]
 omega
theorem zAdh {x:Int} (h:I64 x):zMC x=some (zigP x):=by
 unfold I64 at h
 unfold zMC
 congr 1
 have e1:sShl .i64 x 1=IntKind.i64.wrap (2*x):=by
  unfold sShl
  rw [show min (1:Int).toNat IntKind.i64.bits=1 from rfl,Int.pow_succ,Int.pow_zero,Int.one_mul,Int.mul_comm]
 have e2:sShr .i64 x 63=x/9223372036854775808:=by
  unfold sShr
  rw [show min (63:Int).toNat IntKind.i64.bits=63 from rfl,show (2:Int) ^ 63=9223372036854775808 from rfl,Int.fdiv_eq_ediv_of_nonneg _ (by omega)]
 rw [e1,e2]
 unfold zigP
 by_cases h0:0≤x
 ·have e3:IntKind.u64.wrap (IntKind.i64.wrap (2*x))=2*x:=by rw [IntKind.wrap_u64,IntKind.wrap_i64];omega
  have e4:IntKind.u64.wrap (x/9223372036854775808)=0:=by rw [IntKind.wrap_u64];omega
  rw [e3,e4,if_pos h0,zAdV (by omega) (by omega)]
 ·have e3:IntKind.u64.wrap (IntKind.i64.wrap (2*x))=2*x+18446744073709551616:=by rw [IntKind.wrap_u64,IntKind.wrap_i64];omega
  have e4:IntKind.u64.wrap (x/9223372036854775808)=18446744073709551615:=by rw [IntKind.wrap_u64];omega
  rw [e3,e4,if_neg h0,zZl (by omega) (by omega)];omega
theorem zAdg {n:Int} (h0:0≤n) (h1:n≤18446744073709551615):zMl n=some (zagP n):=by
 unfold zMl
 congr 1
 have e1:sShr .u64 n 1=n/2:=by
  unfold sShr
  rw [show min (1:Int).toNat IntKind.u64.bits=1 from rfl,Int.pow_succ,Int.pow_zero,Int.one_mul,Int.fdiv_eq_ediv_of_nonneg _ (by omega)]
 rw [e1,and1 h0 h1]
 have e2:IntKind.i64.wrap (n/2)=n/2:=by rw [i64_in _ (by omega)]
 have e3:IntKind.i64.wrap (n % 2)=n % 2:=by rw [i64_in _ (by omega)]
 rw [e2,e3]
 unfold zagP
 by_cases h:n % 2=0
 ·rw [if_pos h,h]
  exact zAc9 (by omega) (by omega)
 ·have:n % 2=1:=by omega
  rw [if_neg h,this,show IntKind.i64.wrap (0-1)= -1 from rfl,zAdw (by omega) (by omega)];omega
def sigB (x:List Int):List Int:=x.flatMap fun n=>lebP (zigP n)
theorem zNS:∀(x:List Int),(∀n∈x,I64 n)→(sigB x).length≤10*x.length
 | [],_=>by simp [sigB]
 | n::x,h=>by
  have h1:=zDe (zigP n) (zYr (h n (by simp))).2
  have h2:=zNS x fun m hm=>h m (by simp [hm])
  unfold sigB at h2⊢
  rw [List.flatMap_cons,List.length_append,List.length_cons];omega
theorem zT5 (ns : List Int) (hn : ns.length ≤ 4611686018427387904) (hi : ∀ n ∈ ns, I64 n) : ∀ (t : List Int) (k : Nat) (b : List Int), ns.drop k = t → b.length + (sigB t).length ≤ 140737488355328 → zCv ns (k : Int) b = some (b ++ sigB t)
  | [], k, b, h, hb => by rw [zCv, if_neg (zAI h)]; simp [sigB]
  | x :: t, k, b, h, hb => by
    obtain ⟨h1, h2, h3⟩ := zAm h
    have hx : I64 x := hi x (by have : x ∈ ns.drop k := by rw [h]; simp
                                exact List.mem_of_mem_drop this)
    have hs : sigB (x :: t) = lebP (zigP x) ++ sigB t := by simp [sigB]
    rw [hs, List.length_append] at hb
    rw [zCv, if_pos h1, if_pos ⟨by omega, h1⟩, h2, zAdh hx, zAb, zRF _ _ (by omega), zAb, zA6 (by omega), zT5 ns hn hi t (k + 1) _ h3 (by rw [List.length_append]; omega), hs, List.append_assoc]
theorem zAal (b ns:List Int) (hn:ns.length≤4611686018427387904) (hi:∀n∈ns,I64 n) (hb:b.length+(sigB ns).length≤140737488355328):zHZ b ns=some (b++sigB ns):=by
 unfold zHZ
 rw [zWh b (by omega),zAb,show zCv ns 0 b=_ from zT5 ns hn hi ns 0 b rfl hb,zAb]
theorem zXI (x:List Int):U8s (sigB x):=by
 intro y hy
 obtain ⟨n,_,hn⟩:=List.mem_flatMap.1 hy
 exact zPL _ (zigP n) (Nat.le_refl _) y hn
end Go.Proofs.YtdgdgfckcnjpfaaGreat.Abs
