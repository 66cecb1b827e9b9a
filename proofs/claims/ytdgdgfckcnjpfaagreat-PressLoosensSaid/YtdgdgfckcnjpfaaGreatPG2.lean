/- Plain facts: frames, part 2. Conditions: none. -/
import Derived.Test.YtdgdgfckcnjpfaaGreatPG1
namespace Go.Proofs.YtdgdgfckcnjpfaaGreat.Abs
open Go Go.RowKit Go.IntWalk Crc
set_option linter.unusedVariables false
set_option linter.unusedSimpArgs false
set_option linter.unusedSectionVars false
set_option linter.unnecessarySimpa false
set_option maxRecDepth 100000
set_option linter.unnecessarySimpa false
set_option linter.unusedSimpArgs false
set_option maxRecDepth 100000
set_option linter.unnecessarySimpa false
set_option linter.unusedSimpArgs false
set_option maxRecDepth 100000
theorem zAcO {B:Nat} {x:D} (h:(Ty.lst B .bool).ok x):∃l:List Bool,x= .lst (l.map D.bool)∧l.length*B≤140737488351232∧∀n∈l,True:=
 zZJ (fun y hy=>by obtain ⟨b,rfl⟩:=zAdI hy;exact ⟨b,rfl,trivial⟩) h
theorem zAes (s:zAc):zGb s=some (decide ((s.F_L.length:Int)>500)||decide ((s.F_V.length:Int)>500)||decide ((s.F_Lev.length:Int)>500)||decide ((s.F_Neg.length:Int)>500)):=by
 rw [zGb]
 simp only [orB,zAb,Bool.decide_eq_true]
set_option linter.unnecessarySimpa false
set_option linter.unusedSimpArgs false
set_option maxRecDepth 100000
set_option linter.unusedSimpArgs false
set_option maxRecDepth 100000
theorem and1 {x:Int} (h:0≤x) (hx:x≤18446744073709551615):bAnd .u64 x 1=x % 2:=by
 unfold bAnd
 have e:IntKind.u64.bits=64:=rfl
 rw [e,BitVec.toNat_and,BitVec.toNat_ofInt,BitVec.toNat_ofInt,IntKind.wrap_u64]
 have e1:(x % ((2 ^ 64:Nat):Int)).toNat=x.toNat:=by omega
 have e2:((1:Int) % ((2 ^ 64:Nat):Int)).toNat=1:=by decide
 rw [e1,e2,Nat.and_one_is_mod]
 omega
set_option linter.unusedSimpArgs false
set_option maxRecDepth 100000
def zigP (x:Int):Int:=if 0≤x then 2*x else -2*x-1
def I64 (x:Int):Prop:= -9223372036854775808≤x∧x≤9223372036854775807
theorem zZO {x:Int} (h:I64 x):0≤zigP x∧zigP x≤18446744073709551615:=by unfold I64 at h;unfold zigP;split<;>omega
theorem zAaI {a:Int} (h0:0≤a) (h1:a≤18446744073709551615):bXor .u64 a 18446744073709551615=18446744073709551615-a:=by
 unfold bXor
 have e:IntKind.u64.bits=64:=rfl
 have e1:BitVec.ofInt 64 18446744073709551615=BitVec.allOnes 64:=by decide
 rw [e,e1,BitVec.xor_allOnes,BitVec.toNat_not,BitVec.toNat_ofInt,IntKind.wrap_u64]
 have e2:(a % ((2 ^ 64:Nat):Int)).toNat=a.toNat:=by omega
 rw [e2];omega
theorem zAeE {a:Int} (h0:0≤a) (h1:a≤18446744073709551615):bXor .u64 a 0=a:=by
 unfold bXor
 have e:IntKind.u64.bits=64:=rfl
 have e1:BitVec.ofInt 64 0=0#64:=by decide
 rw [e,e1,BitVec.xor_zero,BitVec.toNat_ofInt,IntKind.wrap_u64]
 omega
theorem zAew {x:Int} (h:I64 x):zMJ x=some (zigP x):=by
 unfold I64 at h
 unfold zMJ
 congr 1
 have e1:sShl .i64 x 1=IntKind.i64.wrap (2*x):=by
  unfold sShl
  rw [show min (1:Int).toNat IntKind.i64.bits=1 from rfl,Int.pow_succ,Int.pow_zero,Int.one_mul,Int.mul_comm]
 have e2:sShr .i64 x 63=x/9223372036854775808:=by
  unfold sShr
  rw [show min (63:Int).toNat IntKind.i64.bits=63 from rfl,show (2:Int) ^ 63=9223372036854775808 from rfl,Int.fdiv_eq_ediv_of_nonneg _ (by omega)]
 rw [e1,e2]
 unfold zigP
 by_cases h0:0≤x
 ·have e3:IntKind.u64.wrap (IntKind.i64.wrap (2*x))=2*x:=by rw [IntKind.wrap_u64,IntKind.wrap_i64];omega
  have e4:IntKind.u64.wrap (x/9223372036854775808)=0:=by rw [IntKind.wrap_u64];omega
  rw [e3,e4,if_pos h0,zAeE (by omega) (by omega)]
 ·have e3:IntKind.u64.wrap (IntKind.i64.wrap (2*x))=2*x+18446744073709551616:=by rw [IntKind.wrap_u64,IntKind.wrap_i64];omega
  have e4:IntKind.u64.wrap (x/9223372036854775808)=18446744073709551615:=by rw [IntKind.wrap_u64];omega
  rw [e3,e4,if_neg h0,zAaI (by omega) (by omega)];omega
def sigB (x:List Int):List Int:=x.flatMap fun n=>lebP (zigP n)
theorem zPm:∀(x:List Int),(∀n∈x,I64 n)→(sigB x).length≤10*x.length
 | [],_=>by simp [sigB]
 | n::x,h=>by
  have h1:=zFV (zigP n) (zZO (h n (by simp))).2
  have h2:=zPm x fun m hm=>h m (by simp [hm])
  unfold sigB at h2⊢
  rw [List.flatMap_cons,List.length_append,List.length_cons];omega
theorem zWy (ns : List Int) (hn : ns.length ≤ 4611686018427387904) (hi : ∀ n ∈ ns, I64 n) : ∀ (t : List Int) (k : Nat) (b : List Int), ns.drop k = t → b.length + (sigB t).length ≤ 140737488355328 → zCF ns (k : Int) b = some (b ++ sigB t)
  | [], k, b, h, hb => by rw [zCF, if_neg (zAp h)]; simp [sigB]
  | x :: t, k, b, h, hb => by
    obtain ⟨h1, h2, h3⟩ := zAh h
    have hx : I64 x := hi x (by have : x ∈ ns.drop k := by rw [h]; simp
                                exact List.mem_of_mem_drop this)
    have hs : sigB (x :: t) = lebP (zigP x) ++ sigB t := by simp [sigB]
    rw [hs, List.length_append] at hb
    rw [zCF, if_pos h1, if_pos ⟨by omega, h1⟩, h2, zAew hx, zAb, zUy _ _ (by omega), zAb, zAx (by omega), zWy ns hn hi t (k + 1) _ h3 (by rw [List.length_append]; omega), hs, List.append_assoc]
theorem zAbO (b ns:List Int) (hn:ns.length≤4611686018427387904) (hi:∀n∈ns,I64 n) (hb:b.length+(sigB ns).length≤140737488355328):zIn b ns=some (b++sigB ns):=by
 unfold zIn
 rw [zYc b (by omega),zAb,show zCF ns 0 b=_ from zWy ns hn hi ns 0 b rfl hb,zAb]
end Go.Proofs.YtdgdgfckcnjpfaaGreat.Abs
