/- Plain facts: the document's planes. Conditions: none. -/
import Derived.Test.YtdgdgfckcnjpfaaGreatPR1
namespace Go.Proofs.YtdgdgfckcnjpfaaGreat.Abs
open Go Go.RowKit Go.IntWalk Crc
set_option linter.unusedVariables false
set_option linter.unusedSimpArgs false
set_option linter.unusedSectionVars false
set_option linter.unnecessarySimpa false
set_option maxRecDepth 100000
set_option linter.unnecessarySimpa false
set_option linter.unusedSimpArgs false
set_option linter.unusedSectionVars false
set_option maxRecDepth 100000
theorem zYv {n:Nat} (h:0<n):wid n=wid (n/2)+1:=by
 by_cases h2:n=1
 ·subst h2;rfl
 ·have:=zMP (n:=n) (k:=1) (by omega)
  simpa using this
theorem zAcx {n:Nat} (h:wid n=0):n=0:=by
 rcases Nat.eq_zero_or_pos n with h0 | h0
 ·exact h0
 ·rw [zYv h0] at h;omega
theorem zAd1 {n:Nat} (h:n<18446744073709551616):wid n≤64:=zUY.2 (by simpa using h)
theorem zSz:∀(m n k:Nat),wid n=m→n<18446744073709551616→k+m≤1000→zBA (k:Int) (n:Int)=some ((k+m:Nat):Int)
 | 0,n,k,h,hn,hk=>by
  have:=zAcx h
  subst this
  rw [zBA,if_neg (by simp)];rfl
 | m+1,n,k,h,hn,hk=>by
  have h0:0<n:=by
   rcases Nat.eq_zero_or_pos n with h0 | h0
   ·subst h0;have h9:wid 0=0:=rfl
    omega
   ·exact h0
  rw [zYv h0] at h
  rw [zBA,if_pos (by omega),Int.tdiv_eq_ediv_of_nonneg (by omega),u64_in _ (by omega),zAx (by omega),show ((n:Int)/2)=((n/2:Nat):Int) by omega,zSz m (n/2) (k+1) (by omega) (by omega) (by omega)]
  congr 1;omega
theorem zSy {n:Int} (h:0≤n∧n≤18446744073709551615):zDy n=some ((wid n.toNat:Nat):Int):=by
 have h64:wid n.toNat≤64:=zAd1 (by omega)
 have:=zSz (wid n.toNat) n.toNat 0 rfl (by omega) (by omega)
 rw [Int.toNat_of_nonneg h.1,show ((0:Nat):Int)=0 from rfl] at this
 rw [zDy,this,zAb,Nat.zero_add]
theorem zY6 {w d:Nat} (hw:w≤32) (hd:d≤4096):zE8 (w:Int) (d:Int)=some (((bytesOf w d:Nat):Int),0):=by
 have h1:w*d≤32*4096:=Nat.mul_le_mul hw hd
 have h2:(w:Int)*(d:Int)=((w*d:Nat):Int):=by push_cast;rfl
 rw [zE8,orB,orB,if_neg (by simp;omega),if_neg (by omega),h2]
 unfold bytesOf
 generalize w*d=q at h1⊢
 rw [i64_in (q:Int) (by omega),i64_in ((q:Int)+7) (by omega),Int.tdiv_eq_ediv_of_nonneg (by omega),i64_in _ (by omega)]
 refine congrArg some (Prod.ext ?_ rfl)
 simp only;omega
theorem zWb {w:Nat} (l:List Int) (hl:l.length≤4611686018427387904) (hx:∀x∈l,0≤x∧x≤18446744073709551615∧x.toNat<2 ^ w):∀(t:List Int) (k:Nat),l.drop k=t→zB3 (w:Int) l (k:Int)=some (.inr ())
 | [],k,h=>by rw [zB3,if_neg (zAp h)]
 | x::t,k,h=>by
  obtain ⟨h1,h2,h3⟩:=zAh h
  have hm:x∈l:=by
   have:x∈l.drop k:=by rw [h];simp
   exact List.mem_of_mem_drop this
  obtain ⟨q1,q2,q3⟩:=hx x hm
  have:=zUY.2 q3
  rw [zB3,if_pos h1,if_pos ⟨by omega,h1⟩,h2,zSy ⟨q1,q2⟩,zAb,if_neg (by omega),zAx (by omega),zWb l hl hx t (k+1) h3]
theorem zAbF {w d:Nat} (hw:w≤32) (hd:d≤4096) {l:List Int} (hl:l.length=d) (hx:∀x∈l,0≤x∧x≤18446744073709551615∧x.toNat<2 ^ w):zF6 (w:Int) l=some 0:=by
 have h:=zWb l (by omega) hx l 0 rfl
 rw [show ((0:Nat):Int)=0 from rfl] at h
 rw [zF6,hl,zY6 hw hd,zAb]
 simp only
 rw [if_neg (by simp),h];rfl
def zHP:List Bool→Nat→List Int→List Int
 | [],_,b=>b
 | x::t,k,b=>zHP t (k+1) (if x then setA b k true else b)
theorem zWd:∀(t:List Bool) (k:Nat) (b:List Int),(zHP t k b).length=b.length
 | [],k,b=>rfl
 | x::t,k,b=>by rw [zHP,zWd t];split<;>simp [zF4]
theorem zYy:∀(t:List Bool) (k:Nat) (b:List Int),U8s b→U8s (zHP t k b)
 | [],k,b,h=>h
 | x::t,k,b,h=>by
  rw [zHP];apply zYy t
  split
  ·exact zNE h k true
  ·exact h
theorem zWz:∀(t:List Bool) (k:Nat) (b:List Int) (j:Nat),k+t.length≤8*b.length→bitA (zHP t k b) j=(bitA b j||(decide (k≤j)&&t.getD (j-k) false))
 | [],k,b,j,h=>by simp [zHP]
 | x::t,k,b,j,h=>by
  simp only [List.length_cons] at h
  have hstep:bitA (if x then setA b k true else b) j=(bitA b j||(x&&decide (k=j))):=by
   cases x with
   | true=>rw [if_pos rfl,zSS (by omega)]
   | false=>simp
  rw [zHP,zWz t (k+1) _ j (by split<;>(try rw [zF4])<;>omega),hstep]
  by_cases h1:k=j
  ·subst h1
   have:¬(k+1≤k):=by omega
   simp [this]
  ·by_cases h2:k+1≤j
   ·have e:j-k=(j-(k+1))+1:=by omega
    have h3:k≤j:=by omega
    rw [e];simp [h1,h2,h3]
   ·have h3:¬k≤j:=by omega
    simp [h1,h2,h3]
theorem zAej {k:Nat}:sShr .u8 128 ((k % 8:Nat):Int)=((2 ^ (7-k % 8):Nat):Int):=by
 rw [show (128:Int)=((128:Nat):Int) from rfl,zAeR _ _ (by omega)]
 have h8:k % 8<8:=Nat.mod_lt _ (by omega)
 generalize k % 8=q at*
 match q,h8 with
 | 0,_=>rfl
 | 1,_=>rfl
 | 2,_=>rfl
 | 3,_=>rfl
 | 4,_=>rfl
 | 5,_=>rfl
 | 6,_=>rfl
 | 7,_=>rfl
theorem zAer {x i:Nat} (h:x.testBit i=false):x+2 ^ i=x ||| 2 ^ i:=by
 refine Nat.eq_of_testBit_eq fun j=> ?_
 rw [Nat.testBit_or,Nat.testBit_two_pow]
 by_cases hj:i=j
 ·subst hj
  rw [Nat.add_comm,Nat.testBit_two_pow_add_eq,h];simp
 ·simp only [hj,decide_false,Bool.or_false]
  rcases Nat.lt_or_ge j i with hlt | hge
  ·rw [Nat.add_comm];exact Nat.testBit_two_pow_add_gt hlt x
  ·have h1:x=2 ^ (i+1)*(x/2 ^ (i+1))+x % 2 ^ (i+1):=(Nat.div_add_mod _ _).symm
   have h2:x % 2 ^ (i+1)<2 ^ i:=by
    have h3:x % 2 ^ (i+1)<2 ^ (i+1):=Nat.mod_lt _ (Nat.two_pow_pos _)
    refine Nat.lt_pow_two_of_testBit _ fun m hm=> ?_
    rw [Nat.testBit_mod_two_pow]
    by_cases hmi:m=i
    ·subst hmi;rw [h];simp
    ·have:¬m<i+1:=by omega
     simp [this]
   have e5:2 ^ (i+1)=2 ^ i+2 ^ i:=by rw [Nat.pow_succ];omega
   have h3:x % 2 ^ (i+1)+2 ^ i<2 ^ (i+1):=Nat.lt_of_lt_of_eq (Nat.add_lt_add_right h2 _) e5.symm
   have h4:x % 2 ^ (i+1)<2 ^ (i+1):=Nat.mod_lt _ (Nat.two_pow_pos _)
   have e1:(x+2 ^ i)/2 ^ (i+1)=x/2 ^ (i+1):=by
    conv=>lhs;rw [h1,Nat.add_assoc]
    rw [Nat.mul_add_div (Nat.two_pow_pos _),Nat.div_eq_of_lt h3,Nat.add_zero]
   have e2:∀y:Nat,y.testBit j=(y/2 ^ (i+1)).testBit (j-(i+1)):=fun y=>by
    rw [Nat.testBit_div_two_pow];congr 1;omega
   rw [e2 (x+2 ^ i),e2 x,e1]
theorem zAbG {b:List Int} (hu:U8s b) {k:Nat} (hk:k<8*b.length) (h0:bitA b k=false):
  b.set (k/8) (IntKind.u8.wrap (at' b ((k/8:Nat):Int)+((2 ^ (7-k % 8):Nat):Int)))=setA b k true:=by
 have hg:=zVt hu (k/8)
 unfold bitA at h0
 have h1:at' b ((k/8:Nat):Int)=(((b.getD (k/8) 0).toNat:Nat):Int):=by rw [zRv,Int.toNat_of_nonneg hg.1]
 have h2:=zAer h0
 have h3:=zVm true k
 have h4:=zYS (x:=(b.getD (k/8) 0).toNat) (y:=(true.toNat) <<< (7-k % 8)) (by omega) h3
 have h5:(true.toNat) <<< (7-k % 8)=2 ^ (7-k % 8):=by rw [Nat.shiftLeft_eq];simp
 rw [h5] at h4
 unfold setA
 rw [h5,h1]
 congr 1
 have:(((b.getD (k/8) 0).toNat:Nat):Int)+((2 ^ (7-k % 8):Nat):Int)=(((b.getD (k/8) 0).toNat ||| 2 ^ (7-k % 8):Nat):Int):=by rw [←h2];push_cast;rfl
 rw [this,u8_in _ (by omega)]
theorem zPg (l:List Bool) (hl:l.length≤4000000):∀(t:List Bool) (k:Nat) (b:List Int),l.drop k=t→U8s b→b.length=(l.length+7)/8→(∀j,k≤j→bitA b j=false)→zBq l (k:Int) b=some (zHP t k b)
 | [],k,b,h,hu,hb,hz=>by rw [zBq,if_neg (zAp h),zHP]
 | x::t,k,b,h,hu,hb,hz=>by
  obtain ⟨h1,h2,h3⟩:=zAh h
  have hk8:k<8*b.length:=by omega
  have e1:IntKind.i64.wrap (Int.tdiv (k:Int) 8)=((k/8:Nat):Int):=by rw [Int.tdiv_eq_ediv_of_nonneg (by omega),i64_in _ (by omega)];omega
  have e2:Int.tmod (k:Int) 8=((k % 8:Nat):Int):=by rw [Int.tmod_eq_emod_of_nonneg (by omega)];omega
  rw [zBq,if_pos h1,if_pos ⟨by omega,h1⟩,h2,zHP,e1,e2]
  have hz':∀j,k+1≤j→bitA (if x then setA b k true else b) j=false:=by
   intro j hj
   split
   ·rw [zSS hk8,hz j (by omega)]
    have:k≠j:=by omega
    simp [this]
   ·exact hz j (by omega)
  cases x with
  | false=>
   rw [if_neg (by simp),zAx (by omega),zPg l hl t (k+1) b h3 hu hb (fun j hj=>hz j (by omega))];rfl
  | true=>
   rw [if_pos rfl,if_pos (by omega),if_pos (by omega),if_pos (by omega),zAb,zAej,Int.toNat_natCast,zAbG hu hk8 (hz k (Nat.le_refl _)),zAx (by omega)]
   exact zPg l hl t (k+1) _ h3 (zNE hu k true) (by rw [zF4];exact hb) (by simpa using hz')
def zJM (l:List Bool):List Int:=zHP l 0 (List.replicate ((l.length+7)/8) 0)
theorem zTZ (l:List Bool) (hl:l.length≤4000000):zDZ l=some (zJM l):=by
 have e:IntKind.i64.wrap (Int.tdiv (IntKind.i64.wrap ((l.length:Int)+7)) 8)=(((l.length+7)/8:Nat):Int):=by
  rw [i64_in ((l.length:Int)+7) (by omega),Int.tdiv_eq_ediv_of_nonneg (by omega),i64_in _ (by omega)];omega
 have h:=zPg l hl l 0 (List.replicate ((l.length+7)/8) 0) rfl (by intro x hx;rw [List.mem_replicate] at hx;omega) (by simp) (fun j _=>zRj _ _)
 rw [show ((0:Nat):Int)=0 from rfl] at h
 rw [zDZ,e,zAb,if_pos ⟨by omega,by omega,by omega,by omega⟩,Int.toNat_natCast,zAb,h];rfl
theorem zWn (l:List Bool):(zJM l).length=(l.length+7)/8:=by rw [zJM,zWd];simp
theorem zXp (l:List Bool):U8s (zJM l):=zYy _ _ _ (by intro x hx;rw [List.mem_replicate] at hx;omega)
theorem zWl (l:List Bool) (j:Nat):bitA (zJM l) j=l.getD j false:=by
 rw [zJM,zWz l 0 _ j (by simp;omega),zRj];simp
def zHW:Nat→List Int→List Bool
 | 0,_=>[]
 | w+1,l=>l.map (fun x=>x.toNat.testBit w)++zHW w l
theorem zMD (l:List Int):∀w,(zHW w l).length=w*l.length
 | 0=>by simp [zHW]
 | w+1=>by rw [zHW,List.length_append,List.length_map,zMD l w,Nat.succ_mul];omega
theorem zQt (l:List Int):∀(w m n:Nat),m<w→n<l.length→(zHW w l).getD ((w-1-m)*l.length+n) false=(l.getD n 0).toNat.testBit m
 | 0,m,n,h,_=>by omega
 | w+1,m,n,h,hn=>by
  rw [zHW]
  by_cases hm:m=w
  ·subst hm
   have:(m+1-1-m)*l.length+n=n:=by rw [show m+1-1-m=0 by omega];omega
   rw [this]
   simp [List.getD_eq_getElem?_getD,List.getElem?_append,hn]
  ·have e:(w+1-1-m)*l.length+n=(l.map (fun x=>x.toNat.testBit w)).length+((w-1-m)*l.length+n):=by
    rw [List.length_map,show w+1-1-m=(w-1-m)+1 by omega,Nat.succ_mul];omega
   have ih:=zQt l w m n (by omega) hn
   rw [e,List.getD_eq_getElem?_getD,List.getElem?_append_right (by omega),Nat.add_sub_cancel_left,←List.getD_eq_getElem?_getD,ih]
theorem zAcm {w:Nat} (l:List Int):zJM (zHW w l)=zE1 (pWov l.length) w l.length l:=by
 have hL:(zJM (zHW w l)).length=(zE1 (pWov l.length) w l.length l).length:=by rw [zWn,zF2,zMD];rfl
 refine zX4 (zXp _) (zV8 _ _ _ _) hL fun k hk=> ?_
 rw [zWl,Bool.eq_iff_iff,zUZ (zVY w l.length) rfl]
 constructor
 ·intro h
  have hkw:k<w*l.length:=by
   rw [←zMD l w]
   rcases Nat.lt_or_ge k (zHW w l).length with h1 | h1
   ·exact h1
   ·rw [List.getD_eq_getElem?_getD,List.getElem?_eq_none h1] at h;cases h
  obtain ⟨n,hn,i,hi,he⟩:=(zVY w l.length).on k hkw
  refine ⟨n,hn,w-1-i,by omega,by rw [←he];congr 1;omega, ?_⟩
  have hg:=zQt l w (w-1-i) n (by omega) hn
  rw [show w-1-(w-1-i)=i by omega,show i*l.length+n=k from he,h] at hg
  exact hg.symm
 ·rintro ⟨n,hn,m,hm,he,hb⟩
  rw [←he]
  exact (zQt l w m n hm hn).trans hb
theorem zAaX (l:List Bool):zJM l=zIt l:=by
 unfold zIt
 have hL:(zJM l).length=(zE1 (zF1 1) 1 l.length (l.map b01)).length:=by rw [zWn,zF2];unfold bytesOf;omega
 refine zX4 (zXp _) (zV8 _ _ _ _) hL fun k hk=> ?_
 rw [zWl,Bool.eq_iff_iff,zUZ (zYC 1 l.length) (by simp)]
 constructor
 ·intro h
  have hkw:k<l.length:=by
   rcases Nat.lt_or_ge k l.length with h1 | h1
   ·exact h1
   ·rw [List.getD_eq_getElem?_getD,List.getElem?_eq_none h1] at h;cases h
  refine ⟨k,hkw,0,by omega,by simp [zF1], ?_⟩
  simp only [List.getD_eq_getElem?_getD,List.getElem?_map,List.getElem?_eq_getElem hkw,Option.map_some,Option.getD_some] at h⊢
  rw [h];rfl
 ·rintro ⟨n,hn,m,hm,he,hb⟩
  have hm0:m=0:=by omega
  subst hm0
  have:n=k:=by simpa [zF1] using he
  subst this
  simp only [List.getD_eq_getElem?_getD,List.getElem?_map,List.getElem?_eq_getElem hn,Option.map_some,Option.getD_some] at hb⊢
  cases hv:l[n] with
  | true=>rfl
  | false=>rw [hv] at hb;simp [b01] at hb
end Go.Proofs.YtdgdgfckcnjpfaaGreat.Abs
