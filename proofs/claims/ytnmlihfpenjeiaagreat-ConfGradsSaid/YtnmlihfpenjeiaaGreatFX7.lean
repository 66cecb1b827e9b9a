/- Plain facts: the table (table, and the document's): roots, powers, the greatest one's place, shares. Conditions: none. -/
import Derived.Test.YtnmlihfpenjeiaaGreatFX5
import Derived.Test.YtnmlihfpenjeiaaGreatPY2
namespace Go.Proofs.YtnmlihfpenjeiaaGreat.Abs
open Go Go.RowKit Go.IntWalk
set_option linter.unusedVariables false
set_option linter.unusedSimpArgs false
set_option linter.unnecessarySimpa false
set_option maxRecDepth 100000
def expT:List Int:=[1073741824,1028218692,984625593,942880698,902905650,864625412,827968131,792864998,759250124,727060409,696235433,666717334,638450707,611382491,585461880,560640217,536870912]
theorem zDN {n r:Int} (hs:((zHO (floatOfInt .f64 n)).bind fun v=>floatToIntVal .f64 v .u64)=some r) (h1:IntKind.u64.wrap (r*r)≤n) (h2:n<IntKind.u64.wrap (IntKind.u64.wrap (r+1)*IntKind.u64.wrap (r+1))) (h3:r≤4294967295):zAz n=some r:=by
 rw [zAz]
 cases hm:zHO (floatOfInt .f64 n) with
 | none=>rw [hm] at hs;cases hs
 | some v=>
  rw [hm,Option.bind_some] at hs
  rw [zAb,hs,if_pos (show (some r).isSome=true from rfl),Option.getD_some,if_neg (by omega),zAb,zE2,if_neg (by omega),zAb,zEY,andB,if_neg (by simp only [Bool.and_eq_true,decide_eq_true_eq];omega),zAb]
theorem zAdz {k:Nat} (hk:k≤31):sShl .u64 1 (k:Int)=((2 ^ k:Nat):Int):=(by decide+kernel:∀i:Fin 32,sShl .u64 1 ((i.val:Nat):Int)=((2 ^ i.val:Nat):Int)) ⟨k,by omega⟩
theorem zUG {n r:Nat} (h1:r*r≤n) (h2:n<(r+1)*(r+1)) (h3:r<4294967296):∀j:Nat,j≤32→zBN (n:Int) ((j:Int)-1) ((r/2 ^ j*2 ^ j:Nat):Int)=some (r:Int)
 | 0,h=>by rw [zBN,if_neg (by omega)];simp
 | j+1,h=>by
  have hp:2 ^ j≤2 ^ 31:=Nat.pow_le_pow_right (by omega) (by omega)
  have hq:0<2 ^ j:=Nat.pow_pos (by omega)
  have e:=Nat.div_add_mod r (2 ^ j)
  have e1:=Nat.mod_lt r hq
  have eb:=zRJ r j
  have eA:r/2 ^ (j+1)+1≤2 ^ (31-j):=by
   have:r/2 ^ (j+1)<2 ^ (31-j):=by
    rw [Nat.div_lt_iff_lt_mul (Nat.pow_pos (by omega)),←Nat.pow_add,show 31-j+(j+1)=32 by omega];exact h3
   omega
  have eT:(r/2 ^ (j+1)+1)*2 ^ (j+1)≤4294967296:=by
   have:=Nat.mul_le_mul_right (2 ^ (j+1)) eA
   rw [←Nat.pow_add,show 31-j+(j+1)=32 by omega] at this
   exact this
  have ih:=zUG h1 h2 h3 j (by omega)
  rw [zBN,if_pos (by omega),if_pos (by omega),show ((j+1:Nat):Int)-1=(j:Int) by omega,zAdz (by omega)]
  rw [Nat.add_mul,Nat.one_mul,Nat.pow_succ] at eT
  rw [Nat.pow_succ] at eb⊢
  generalize r/(2 ^ j*2)=A at*
  generalize r/2 ^ j=B at*
  generalize 2 ^ j=p at*
  have e6:p*B=A*(p*2)+p*(B % 2):=by
   rw [eb,Nat.mul_add,show (2*A+B % 2) % 2=B % 2 by omega]
   rw [Nat.mul_left_comm A,Nat.mul_comm A,←Nat.mul_assoc]
  generalize hT:A*(p*2)=T at*
  have hw:IntKind.u64.wrap ((T:Nat)+(p:Nat):Int)=((T+p:Nat):Int):=by rw [u64_in _ (by omega)];omega
  have hm:(T+p)*(T+p)≤4294967295*4294967295:=Nat.mul_le_mul (by omega) (by omega)
  have hw2:IntKind.u64.wrap (((T+p:Nat):Int)*((T+p:Nat):Int))=(((T+p)*(T+p):Nat):Int):=by
   rw [←Int.natCast_mul,u64_in _ (by omega)]
  rw [hw,hw2,i64_in _ (by omega)]
  rcases Nat.mod_two_eq_zero_or_one B with g | g
  ·rw [g,Nat.mul_zero] at e6
   have:(r+1)*(r+1)≤(T+p)*(T+p):=Nat.mul_le_mul (by omega) (by omega)
   rw [if_neg (by omega),←ih,Nat.mul_comm B,e6,Nat.add_zero]
  ·rw [g,Nat.mul_one] at e6
   have:(T+p)*(T+p)≤r*r:=Nat.mul_le_mul (by omega) (by omega)
   rw [if_pos (by omega),←ih,Nat.mul_comm B,e6]
theorem zCs {n r:Nat} (h1:r*r≤n) (h2:n<(r+1)*(r+1)) (h3:r<4294967296):zAH (n:Int)=some (r:Int):=by
 have h:=zUG h1 h2 h3 32 (by omega)
 rw [show ((32:Nat):Int)-1=31 from rfl,Nat.div_eq_of_lt (by omega),Nat.zero_mul] at h
 rw [zAH]
 exact (congrArg (·>>=_) h).trans rfl
theorem zTx:zAz 576460752303423488=some 759250124:=zDN (by decide+kernel) (by decide+kernel) (by decide+kernel) (by decide)
theorem zTk:zAH 576460752303423488=some 759250124:= @zCs 576460752303423488 759250124 (by decide) (by decide) (by decide)
theorem zTA:zAz 815238613015986176=some 902905650:=zDN (by decide+kernel) (by decide+kernel) (by decide+kernel) (by decide)
theorem zSs:zAH 815238613015986176=some 902905650:= @zCs 815238613015986176 902905650 (by decide) (by decide) (by decide)
theorem zS7:zAz 407619306507993088=some 638450707:=zDN (by decide+kernel) (by decide+kernel) (by decide+kernel) (by decide)
theorem zSR:zAH 407619306507993088=some 638450707:= @zCs 407619306507993088 638450707 (by decide) (by decide) (by decide)
theorem zTR:zAz 969487559530905600=some 984625593:=zDN (by decide+kernel) (by decide+kernel) (by decide+kernel) (by decide)
theorem zTh:zAH 969487559530905600=some 984625593:= @zCs 969487559530905600 984625593 (by decide) (by decide) (by decide)
theorem zTB:zAz 685531226722800600=some 827968131:=zDN (by decide+kernel) (by decide+kernel) (by decide+kernel) (by decide)
theorem zTp:zAH 685531226722800600=some 827968131:= @zCs 685531226722800600 827968131 (by decide) (by decide) (by decide)
theorem zTo:zAz 484743778457637668=some 696235433:=zDN (by decide+kernel) (by decide+kernel) (by decide+kernel) (by decide)
theorem zSY:zAH 484743778457637668=some 696235433:= @zCs 484743778457637668 696235433 (by decide) (by decide) (by decide)
theorem zTQ:zAz 342765613334134784=some 585461880:=zDN (by decide+kernel) (by decide+kernel) (by decide+kernel) (by decide)
theorem zTn:zAH 342765613334134784=some 585461880:= @zCs 342765613334134784 585461880 (by decide) (by decide) (by decide)
theorem zRZ:zAz 1057233680184901632=some 1028218692:=zDN (by decide+kernel) (by decide+kernel) (by decide+kernel) (by decide)
theorem zRY:zAH 1057233680184901632=some 1028218692:= @zCs 1057233680184901632 1028218692 (by decide) (by decide) (by decide)
theorem zS0:zAz 889024011054300450=some 942880698:=zDN (by decide+kernel) (by decide+kernel) (by decide+kernel) (by decide)
theorem zTa:zAH 889024011054300450=some 942880698:= @zCs 889024011054300450 942880698 (by decide) (by decide) (by decide)
theorem zTN:zAz 747577103499840150=some 864625412:=zDN (by decide+kernel) (by decide+kernel) (by decide+kernel) (by decide)
theorem zSp:zAH 747577103499840150=some 864625412:= @zCs 747577103499840150 864625412 (by decide) (by decide) (by decide)
theorem zSw:zAz 628634906129798244=some 792864998:=zDN (by decide+kernel) (by decide+kernel) (by decide+kernel) (by decide)
theorem zSE:zAH 628634906129798244=some 792864998:= @zCs 628634906129798244 792864998 (by decide) (by decide) (by decide)
theorem zSv:zAz 528616838838443692=some 727060409:=zDN (by decide+kernel) (by decide+kernel) (by decide+kernel) (by decide)
theorem zS5:zAH 528616838838443692=some 727060409:= @zCs 528616838838443692 727060409 (by decide) (by decide) (by decide)
theorem zSx:zAz 444512004437301131=some 666717334:=zDN (by decide+kernel) (by decide+kernel) (by decide+kernel) (by decide)
theorem zTJ:zAH 444512004437301131=some 666717334:= @zCs 444512004437301131 666717334 (by decide) (by decide) (by decide)
theorem zSN:zAz 373788551207549160=some 611382491:=zDN (by decide+kernel) (by decide+kernel) (by decide+kernel) (by decide)
theorem zST:zAH 373788551207549160=some 611382491:= @zCs 373788551207549160 611382491 (by decide) (by decide) (by decide)
theorem zSz:zAz 314317453456834560=some 560640217:=zDN (by decide+kernel) (by decide+kernel) (by decide+kernel) (by decide)
theorem zTl:zAH 314317453456834560=some 560640217:= @zCs 314317453456834560 560640217 (by decide) (by decide) (by decide)
theorem zAdc:zID=some (1073741824,1028218692,984625593,942880698,902905650,864625412,827968131,792864998,759250124,727060409,696235433,666717334,638450707,611382491,585461880,560640217,536870912):=by
 rw [zID,zTx,zAb,show IntKind.u64.wrap (1073741824*759250124)=815238613015986176 by decide+kernel,zTA,zAb,show IntKind.u64.wrap (759250124*536870912)=407619306507993088 by decide+kernel,zS7,zAb,show IntKind.u64.wrap (1073741824*902905650)=969487559530905600 by decide+kernel,zTR,zAb,show IntKind.u64.wrap (902905650*759250124)=685531226722800600 by decide+kernel,zTB,zAb,show IntKind.u64.wrap (759250124*638450707)=484743778457637668 by decide+kernel,zTo,zAb,show IntKind.u64.wrap (638450707*536870912)=342765613334134784 by decide+kernel,zTQ,zAb,show IntKind.u64.wrap (1073741824*984625593)=1057233680184901632 by decide+kernel,zRZ,zAb,show IntKind.u64.wrap (984625593*902905650)=889024011054300450 by decide+kernel,zS0,zAb,show IntKind.u64.wrap (902905650*827968131)=747577103499840150 by decide+kernel,zTN,zAb,show IntKind.u64.wrap (827968131*759250124)=628634906129798244 by decide+kernel,zSw,zAb,show IntKind.u64.wrap (759250124*696235433)=528616838838443692 by decide+kernel,zSv,zAb,show IntKind.u64.wrap (696235433*638450707)=444512004437301131 by decide+kernel,zSx,zAb,show IntKind.u64.wrap (638450707*585461880)=373788551207549160 by decide+kernel,zSN,zAb,show IntKind.u64.wrap (585461880*536870912)=314317453456834560 by decide+kernel,zSz,zAb]
theorem zDj {x0 i i' n r:Int} {l l':List Int} (h1:i<16) (h2:0≤IntKind.i64.wrap (i-(at' [8,4,2,1] x0))∧IntKind.i64.wrap (i-(at' [8,4,2,1] x0))<(l.length:Int)) (h3:0≤IntKind.i64.wrap (i+(at' [8,4,2,1] x0))∧IntKind.i64.wrap (i+(at' [8,4,2,1] x0))<(l.length:Int))
  (hn:IntKind.u64.wrap ((at' l (IntKind.i64.wrap (i-(at' [8,4,2,1] x0))))*(at' l (IntKind.i64.wrap (i+(at' [8,4,2,1] x0)))))=n) (h4:zAH n=some r) (h5:0≤i∧i<(l.length:Int)) (h6:l.set (Int.toNat i) r=l') (h7:IntKind.i64.wrap (i+(IntKind.i64.wrap (2*(at' [8,4,2,1] x0))))=i'):
  zAQ x0 i l=zAQ x0 i' l':=by
 rw [zAQ,if_pos h1,if_pos h2,if_pos h3,hn,h4,zAb,if_pos h5,zAb,zAb,h6,h7]
theorem zQn {x0 i:Int} {l:List Int} (h:¬i<16):zAQ x0 i l=some l:=by rw [zAQ,if_neg h]
theorem zAbZ:zAQ 0 8 [1073741824,0,0,0,0,0,0,0,0,0,0,0,0,0,0,0,536870912]=some [1073741824,0,0,0,0,0,0,0,759250124,0,0,0,0,0,0,0,536870912]:=((zDj (x0:=0) (i:=8) (i':=24) (l:=[1073741824,0,0,0,0,0,0,0,0,0,0,0,0,0,0,0,536870912]) (l':=[1073741824,0,0,0,0,0,0,0,759250124,0,0,0,0,0,0,0,536870912]) (by decide) (by decide+kernel) (by decide+kernel) (by decide+kernel) zTk (by decide+kernel) (by decide+kernel) (by decide+kernel)).trans (zQn (by decide)))
theorem zAcr:zAQ 1 4 [1073741824,0,0,0,0,0,0,0,759250124,0,0,0,0,0,0,0,536870912]=some [1073741824,0,0,0,902905650,0,0,0,759250124,0,0,0,638450707,0,0,0,536870912]:=((zDj (x0:=1) (i:=4) (i':=12) (l:=[1073741824,0,0,0,0,0,0,0,759250124,0,0,0,0,0,0,0,536870912]) (l':=[1073741824,0,0,0,902905650,0,0,0,759250124,0,0,0,0,0,0,0,536870912]) (by decide) (by decide+kernel) (by decide+kernel) (by decide+kernel) zSs (by decide+kernel) (by decide+kernel) (by decide+kernel)).trans ((zDj (x0:=1) (i:=12) (i':=20) (l:=[1073741824,0,0,0,902905650,0,0,0,759250124,0,0,0,0,0,0,0,536870912]) (l':=[1073741824,0,0,0,902905650,0,0,0,759250124,0,0,0,638450707,0,0,0,536870912]) (by decide) (by decide+kernel) (by decide+kernel) (by decide+kernel) zSR (by decide+kernel) (by decide+kernel) (by decide+kernel)).trans (zQn (by decide))))
theorem zAcE:zAQ 2 2 [1073741824,0,0,0,902905650,0,0,0,759250124,0,0,0,638450707,0,0,0,536870912]=some [1073741824,0,984625593,0,902905650,0,827968131,0,759250124,0,696235433,0,638450707,0,585461880,0,536870912]:=((zDj (x0:=2) (i:=2) (i':=6) (l:=[1073741824,0,0,0,902905650,0,0,0,759250124,0,0,0,638450707,0,0,0,536870912]) (l':=[1073741824,0,984625593,0,902905650,0,0,0,759250124,0,0,0,638450707,0,0,0,536870912]) (by decide) (by decide+kernel) (by decide+kernel) (by decide+kernel) zTh (by decide+kernel) (by decide+kernel) (by decide+kernel)).trans ((zDj (x0:=2) (i:=6) (i':=10) (l:=[1073741824,0,984625593,0,902905650,0,0,0,759250124,0,0,0,638450707,0,0,0,536870912]) (l':=[1073741824,0,984625593,0,902905650,0,827968131,0,759250124,0,0,0,638450707,0,0,0,536870912]) (by decide) (by decide+kernel) (by decide+kernel) (by decide+kernel) zTp (by decide+kernel) (by decide+kernel) (by decide+kernel)).trans ((zDj (x0:=2) (i:=10) (i':=14) (l:=[1073741824,0,984625593,0,902905650,0,827968131,0,759250124,0,0,0,638450707,0,0,0,536870912]) (l':=[1073741824,0,984625593,0,902905650,0,827968131,0,759250124,0,696235433,0,638450707,0,0,0,536870912]) (by decide) (by decide+kernel) (by decide+kernel) (by decide+kernel) zSY (by decide+kernel) (by decide+kernel) (by decide+kernel)).trans ((zDj (x0:=2) (i:=14) (i':=18) (l:=[1073741824,0,984625593,0,902905650,0,827968131,0,759250124,0,696235433,0,638450707,0,0,0,536870912]) (l':=[1073741824,0,984625593,0,902905650,0,827968131,0,759250124,0,696235433,0,638450707,0,585461880,0,536870912]) (by decide) (by decide+kernel) (by decide+kernel) (by decide+kernel) zTn (by decide+kernel) (by decide+kernel) (by decide+kernel)).trans (zQn (by decide))))))
theorem zAcB:zAQ 3 1 [1073741824,0,984625593,0,902905650,0,827968131,0,759250124,0,696235433,0,638450707,0,585461880,0,536870912]=some [1073741824,1028218692,984625593,942880698,902905650,864625412,827968131,792864998,759250124,727060409,696235433,666717334,638450707,611382491,585461880,560640217,536870912]:=((zDj (x0:=3) (i:=1) (i':=3) (l:=[1073741824,0,984625593,0,902905650,0,827968131,0,759250124,0,696235433,0,638450707,0,585461880,0,536870912]) (l':=[1073741824,1028218692,984625593,0,902905650,0,827968131,0,759250124,0,696235433,0,638450707,0,585461880,0,536870912]) (by decide) (by decide+kernel) (by decide+kernel) (by decide+kernel) zRY (by decide+kernel) (by decide+kernel) (by decide+kernel)).trans ((zDj (x0:=3) (i:=3) (i':=5) (l:=[1073741824,1028218692,984625593,0,902905650,0,827968131,0,759250124,0,696235433,0,638450707,0,585461880,0,536870912]) (l':=[1073741824,1028218692,984625593,942880698,902905650,0,827968131,0,759250124,0,696235433,0,638450707,0,585461880,0,536870912]) (by decide) (by decide+kernel) (by decide+kernel) (by decide+kernel) zTa (by decide+kernel) (by decide+kernel) (by decide+kernel)).trans ((zDj (x0:=3) (i:=5) (i':=7) (l:=[1073741824,1028218692,984625593,942880698,902905650,0,827968131,0,759250124,0,696235433,0,638450707,0,585461880,0,536870912]) (l':=[1073741824,1028218692,984625593,942880698,902905650,864625412,827968131,0,759250124,0,696235433,0,638450707,0,585461880,0,536870912]) (by decide) (by decide+kernel) (by decide+kernel) (by decide+kernel) zSp (by decide+kernel) (by decide+kernel) (by decide+kernel)).trans ((zDj (x0:=3) (i:=7) (i':=9) (l:=[1073741824,1028218692,984625593,942880698,902905650,864625412,827968131,0,759250124,0,696235433,0,638450707,0,585461880,0,536870912]) (l':=[1073741824,1028218692,984625593,942880698,902905650,864625412,827968131,792864998,759250124,0,696235433,0,638450707,0,585461880,0,536870912]) (by decide) (by decide+kernel) (by decide+kernel) (by decide+kernel) zSE (by decide+kernel) (by decide+kernel) (by decide+kernel)).trans ((zDj (x0:=3) (i:=9) (i':=11) (l:=[1073741824,1028218692,984625593,942880698,902905650,864625412,827968131,792864998,759250124,0,696235433,0,638450707,0,585461880,0,536870912]) (l':=[1073741824,1028218692,984625593,942880698,902905650,864625412,827968131,792864998,759250124,727060409,696235433,0,638450707,0,585461880,0,536870912]) (by decide) (by decide+kernel) (by decide+kernel) (by decide+kernel) zS5 (by decide+kernel) (by decide+kernel) (by decide+kernel)).trans ((zDj (x0:=3) (i:=11) (i':=13) (l:=[1073741824,1028218692,984625593,942880698,902905650,864625412,827968131,792864998,759250124,727060409,696235433,0,638450707,0,585461880,0,536870912]) (l':=[1073741824,1028218692,984625593,942880698,902905650,864625412,827968131,792864998,759250124,727060409,696235433,666717334,638450707,0,585461880,0,536870912]) (by decide) (by decide+kernel) (by decide+kernel) (by decide+kernel) zTJ (by decide+kernel) (by decide+kernel) (by decide+kernel)).trans ((zDj (x0:=3) (i:=13) (i':=15) (l:=[1073741824,1028218692,984625593,942880698,902905650,864625412,827968131,792864998,759250124,727060409,696235433,666717334,638450707,0,585461880,0,536870912]) (l':=[1073741824,1028218692,984625593,942880698,902905650,864625412,827968131,792864998,759250124,727060409,696235433,666717334,638450707,611382491,585461880,0,536870912]) (by decide) (by decide+kernel) (by decide+kernel) (by decide+kernel) zST (by decide+kernel) (by decide+kernel) (by decide+kernel)).trans ((zDj (x0:=3) (i:=15) (i':=17) (l:=[1073741824,1028218692,984625593,942880698,902905650,864625412,827968131,792864998,759250124,727060409,696235433,666717334,638450707,611382491,585461880,0,536870912]) (l':=[1073741824,1028218692,984625593,942880698,902905650,864625412,827968131,792864998,759250124,727060409,696235433,666717334,638450707,611382491,585461880,560640217,536870912]) (by decide) (by decide+kernel) (by decide+kernel) (by decide+kernel) zTl (by decide+kernel) (by decide+kernel) (by decide+kernel)).trans (zQn (by decide))))))))))
theorem zQm {x0 x1 far:Int} {l l':List Int} (h1:x0<4) (h2:0≤x0) (hf:at' [8,4,2,1] x0=far) (h:zAQ x0 far l=some l') (h4:IntKind.i64.wrap (x0+1)=x1):zBA x0 l=zBA x1 l':=by
 rw [zBA,if_pos (show x0<(([8,4,2,1]:List Nat).length:Int) from h1),if_pos ⟨h2,h1⟩,hf,h,zAb,h4]
theorem zAdf:zFr=some expT:=by
 rw [zFr,if_pos (by decide),zAb,if_pos (by decide),zAb,if_pos (by decide),zAb]
 have e:zBA 0 [1073741824,0,0,0,0,0,0,0,0,0,0,0,0,0,0,0,536870912]=some expT:=(zQm (x0:=0) (x1:=1) (by decide) (by decide) (by decide) zAbZ (by decide)).trans ((zQm (x0:=1) (x1:=2) (by decide) (by decide) (by decide) zAcr (by decide)).trans ((zQm (x0:=2) (x1:=3) (by decide) (by decide) (by decide) zAcE (by decide)).trans ((zQm (x0:=3) (x1:=4) (by decide) (by decide) (by decide) zAcB (by decide)).trans (by rw [zBA,if_neg (by decide)];rfl))))
 exact (congrArg (·>>=_) e).trans rfl
end Go.Proofs.YtnmlihfpenjeiaaGreat.Abs
