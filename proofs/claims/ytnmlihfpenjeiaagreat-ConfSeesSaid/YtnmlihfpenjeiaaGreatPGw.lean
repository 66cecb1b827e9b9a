/- Plain facts: how many bits a number has. Conditions: none. -/
import Derived.Test.YtnmlihfpenjeiaaGreatPB
import Derived.Test.YtnmlihfpenjeiaaGreatEM
namespace Go.Proofs.YtnmlihfpenjeiaaGreat.Abs
open Go Go.RowKit Go.IntWalk
set_option linter.unusedVariables false
set_option linter.unusedSimpArgs false
set_option linter.unnecessarySimpa false
set_option maxRecDepth 100000
set_option linter.unnecessarySimpa false
set_option maxRecDepth 100000
def wid (n:Nat):Nat:=if n=0 then 0 else n.log2+1
theorem zMO {n k:Nat} (h:2 ^ k≤n):wid n=wid (n/2 ^ k)+k:=by
 have hp:0<2 ^ k:=Nat.two_pow_pos k
 have h1:1≤n/2 ^ k:=(Nat.le_div_iff_mul_le hp).2 (by omega)
 unfold wid
 rw [if_neg (by omega),if_neg (by omega)]
 have hl:n.log2=(n/2 ^ k).log2+k:=by
  rw [Nat.log2_eq_iff (by omega)]
  have a1:2 ^ (n/2 ^ k).log2≤n/2 ^ k:=Nat.log2_self_le (by omega)
  have a2:n/2 ^ k<2 ^ ((n/2 ^ k).log2+1):=Nat.lt_log2_self
  constructor
  ·rw [Nat.pow_add]
   exact Nat.le_trans (Nat.mul_le_mul_right _ a1) (Nat.div_mul_le_self n (2 ^ k))
  ·rw [show (n/2 ^ k).log2+k+1=((n/2 ^ k).log2+1)+k by omega,Nat.pow_add]
   exact (Nat.div_lt_iff_lt_mul hp).1 a2
 omega
def len8:ByteArray:=ByteArray.mk #[0,1,2,2,3,3,3,3,4,4,4,4,4,4,4,4,5,5,5,5,5,5,5,5,5,5,5,5,5,5,5,5,6,6,6,6,6,6,6,6,6,6,6,6,6,6,6,6,6,6,6,6,6,6,6,6,6,6,6,6,6,6,6,6,7,7,7,7,7,7,7,7,7,7,7,7,7,7,7,7,7,7,7,7,7,7,7,7,7,7,7,7,7,7,7,7,7,7,7,7,7,7,7,7,7,7,7,7,7,7,7,7,7,7,7,7,7,7,7,7,7,7,7,7,7,7,7,7,8,8,8,8,8,8,8,8,8,8,8,8,8,8,8,8,8,8,8,8,8,8,8,8,8,8,8,8,8,8,8,8,8,8,8,8,8,8,8,8,8,8,8,8,8,8,8,8,8,8,8,8,8,8,8,8,8,8,8,8,8,8,8,8,8,8,8,8,8,8,8,8,8,8,8,8,8,8,8,8,8,8,8,8,8,8,8,8,8,8,8,8,8,8,8,8,8,8,8,8,8,8,8,8,8,8,8,8,8,8,8,8,8,8,8,8,8,8,8,8,8,8,8,8,8,8,8,8]
theorem zU1:∀i:Fin 256,(len8.data.getD i.val 0).toNat=wid i.val:=by decide+kernel
theorem zWt:len8.size=256:=by decide+kernel
theorem shrU (m k:Nat) (hk:k≤64):sShr .u64 (m:Int) (k:Int)=((m/2 ^ k:Nat):Int):=by
 simp only [sShr]
 have h2:(2:Int) ^ (min (k:Int).toNat IntKind.u64.bits)=((2 ^ k:Nat):Int):=by
  have:IntKind.u64.bits=64:=by decide
  rw [this,show min (k:Int).toNat 64=k by omega];simp
 rw [h2,Int.fdiv_eq_ediv_of_nonneg _ (Int.natCast_nonneg _)];rfl
theorem zXL {n:Nat} (h:n<18446744073709551616):zET (n:Int)=some ((wid n:Nat):Int):=by
 obtain ⟨k1,m1,e1,h1,w1,b1⟩:∃k1 m1:Nat,((if (n:Int)≥4294967296 then some (32,sShr .u64 (n:Int) 32) else some (0,(n:Int))):Option (Int×Int))=some ((k1:Int),(m1:Int))∧m1<4294967296∧wid n=wid m1+k1∧k1≤32:=by
  by_cases hn:4294967296≤n
  ·refine ⟨32,n/2 ^ 32, ?_,by omega,zMO (by omega),by omega⟩
   rw [if_pos (by omega)]
   have:=shrU n 32 (by omega)
   rw [←this];rfl
  ·exact ⟨0,n,by rw [if_neg (by omega)];rfl,by omega,rfl,by omega⟩
 obtain ⟨k2,m2,e2,h2,w2,b2⟩:∃k2 m2:Nat,((if (m1:Int)≥65536 then some (IntKind.i64.wrap ((k1:Int)+16),sShr .u64 (m1:Int) 16) else some ((k1:Int),(m1:Int))):Option (Int×Int))=some ((k2:Int),(m2:Int))∧m2<65536∧wid n=wid m2+k2∧k2≤48:=by
  by_cases hn:65536≤m1
  ·refine ⟨k1+16,m1/2 ^ 16, ?_,by omega,by rw [w1,zMO (k:=16) (n:=m1) (by omega)];omega,by omega⟩
   rw [if_pos (by omega)]
   have:=shrU m1 16 (by omega)
   rw [i64_in _ (by omega),←this];rfl
  ·exact ⟨k1,m1,by rw [if_neg (by omega)],by omega,w1,by omega⟩
 have hw8:∀i:Nat,i<256→wid i≤8:=by
  have:∀i:Fin 256,wid i.val≤8:=by decide+kernel
  exact fun i hi=>this ⟨i,hi⟩
 rw [zET,e1,zAb,e2,zAb,show (ByteArray.mk #[0,1,2,2,3,3,3,3,4,4,4,4,4,4,4,4,5,5,5,5,5,5,5,5,5,5,5,5,5,5,5,5,6,6,6,6,6,6,6,6,6,6,6,6,6,6,6,6,6,6,6,6,6,6,6,6,6,6,6,6,6,6,6,6,7,7,7,7,7,7,7,7,7,7,7,7,7,7,7,7,7,7,7,7,7,7,7,7,7,7,7,7,7,7,7,7,7,7,7,7,7,7,7,7,7,7,7,7,7,7,7,7,7,7,7,7,7,7,7,7,7,7,7,7,7,7,7,7,8,8,8,8,8,8,8,8,8,8,8,8,8,8,8,8,8,8,8,8,8,8,8,8,8,8,8,8,8,8,8,8,8,8,8,8,8,8,8,8,8,8,8,8,8,8,8,8,8,8,8,8,8,8,8,8,8,8,8,8,8,8,8,8,8,8,8,8,8,8,8,8,8,8,8,8,8,8,8,8,8,8,8,8,8,8,8,8,8,8,8,8,8,8,8,8,8,8,8,8,8,8,8,8,8,8,8,8,8,8,8,8,8,8,8,8,8,8,8,8,8,8,8,8,8,8,8,8]:ByteArray)=len8 from rfl,zWt]
 simp only
 by_cases hn:256≤m2
 ·have e3:IntKind.u8.wrap (sShr .u64 (m2:Int) 8)=((m2/256:Nat):Int):=by
   have:=shrU m2 8 (by omega)
   rw [show (8:Int)=((8:Nat):Int) from rfl,this,u8_in _ (by omega)]
  rw [if_pos (by omega),e3,if_pos (by omega),Int.toNat_natCast]
  have e4:=zU1 ⟨m2/256,by omega⟩
  simp only at e4
  rw [e4]
  have:=hw8 (m2/256) (by omega)
  rw [i64_in (((wid (m2/256):Nat):Int)) (by omega),i64_in ((k2:Int)+8) (by omega),i64_in _ (by omega),w2,zMO (k:=8) (n:=m2) (by omega)]
  simp only [Nat.reducePow]
  congr 1;omega
 ·have e3:IntKind.u8.wrap (m2:Int)=(m2:Int):=u8_in _ (by omega)
  rw [if_neg (by omega),e3,if_pos (by omega),Int.toNat_natCast]
  have e4:=zU1 ⟨m2,by omega⟩
  simp only at e4
  rw [e4]
  have:=hw8 m2 (by omega)
  rw [i64_in (((wid m2:Nat):Int)) (by omega),i64_in _ (by omega),w2]
  congr 1;omega
end Go.Proofs.YtnmlihfpenjeiaaGreat.Abs
