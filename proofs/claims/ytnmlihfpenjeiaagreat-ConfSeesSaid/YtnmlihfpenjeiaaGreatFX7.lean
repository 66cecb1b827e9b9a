/- Plain facts: the table (table, and the document's): roots, powers, the greatest one's place, shares. Conditions: none. -/
import Derived.Test.YtnmlihfpenjeiaaGreatFX5
import Derived.Test.YtnmlihfpenjeiaaGreatPY2
namespace Go.Proofs.YtnmlihfpenjeiaaGreat.Abs
open Go Go.RowKit Go.IntWalk
set_option linter.unusedVariables false
set_option linter.unusedSimpArgs false
set_option linter.unnecessarySimpa false
set_option maxRecDepth 100000
def expT:List Int:=[1073741824,1028218692,984625593,942880698,902905650,864625412,827968131,792864998,759250124,727060409,696235433,666717334,638450707,611382491,585461880,560640217,536870912]
theorem zDI {n r:Int} (hs:((zG5 (floatOfInt .f64 n)).bind fun v=>floatToIntVal .f64 v .u64)=some r) (h1:IntKind.u64.wrap (r*r)≤n) (h2:n<IntKind.u64.wrap (IntKind.u64.wrap (r+1)*IntKind.u64.wrap (r+1))) (h3:r≤4294967295):zAz n=some r:=by
 rw [zAz]
 cases hm:zG5 (floatOfInt .f64 n) with
 | none=>rw [hm] at hs;cases hs
 | some v=>
  rw [hm,Option.bind_some] at hs
  rw [zAb,hs,if_pos (show (some r).isSome=true from rfl),Option.getD_some,if_neg (by omega),zAb,zEB,if_neg (by omega),zAb,zED,andB,if_neg (by simp only [Bool.and_eq_true,decide_eq_true_eq];omega),zAb]
theorem zZY {k:Nat} (hk:k≤31):sShl .u64 1 (k:Int)=((2 ^ k:Nat):Int):=(by decide+kernel:∀i:Fin 32,sShl .u64 1 ((i.val:Nat):Int)=((2 ^ i.val:Nat):Int)) ⟨k,by omega⟩
theorem zQX {n r:Nat} (h1:r*r≤n) (h2:n<(r+1)*(r+1)) (h3:r<4294967296):∀j:Nat,j≤32→zCj (n:Int) ((j:Int)-1) ((r/2 ^ j*2 ^ j:Nat):Int)=some (r:Int)
 | 0,h=>by rw [zCj,if_neg (by omega)];simp
 | j+1,h=>by
  have hp:2 ^ j≤2 ^ 31:=Nat.pow_le_pow_right (by omega) (by omega)
  have hq:0<2 ^ j:=Nat.pow_pos (by omega)
  have e:=Nat.div_add_mod r (2 ^ j)
  have e1:=Nat.mod_lt r hq
  have eb:=zOp r j
  have eA:r/2 ^ (j+1)+1≤2 ^ (31-j):=by
   have:r/2 ^ (j+1)<2 ^ (31-j):=by
    rw [Nat.div_lt_iff_lt_mul (Nat.pow_pos (by omega)),←Nat.pow_add,show 31-j+(j+1)=32 by omega];exact h3
   omega
  have eT:(r/2 ^ (j+1)+1)*2 ^ (j+1)≤4294967296:=by
   have:=Nat.mul_le_mul_right (2 ^ (j+1)) eA
   rw [←Nat.pow_add,show 31-j+(j+1)=32 by omega] at this
   exact this
  have ih:=zQX h1 h2 h3 j (by omega)
  rw [zCj,if_pos (by omega),if_pos (by omega),show ((j+1:Nat):Int)-1=(j:Int) by omega,zZY (by omega)]
  rw [Nat.add_mul,Nat.one_mul,Nat.pow_succ] at eT
  rw [Nat.pow_succ] at eb⊢
  generalize r/(2 ^ j*2)=A at*
  generalize r/2 ^ j=B at*
  generalize 2 ^ j=p at*
  have e6:p*B=A*(p*2)+p*(B % 2):=by
   rw [eb,Nat.mul_add,show (2*A+B % 2) % 2=B % 2 by omega]
   rw [Nat.mul_left_comm A,Nat.mul_comm A,←Nat.mul_assoc]
  generalize hT:A*(p*2)=T at*
  have hw:IntKind.u64.wrap ((T:Nat)+(p:Nat):Int)=((T+p:Nat):Int):=by rw [u64_in _ (by omega)];omega
  have hm:(T+p)*(T+p)≤4294967295*4294967295:=Nat.mul_le_mul (by omega) (by omega)
  have hw2:IntKind.u64.wrap (((T+p:Nat):Int)*((T+p:Nat):Int))=(((T+p)*(T+p):Nat):Int):=by
   rw [←Int.natCast_mul,u64_in _ (by omega)]
  rw [hw,hw2,i64_in _ (by omega)]
  rcases Nat.mod_two_eq_zero_or_one B with g | g
  ·rw [g,Nat.mul_zero] at e6
   have:(r+1)*(r+1)≤(T+p)*(T+p):=Nat.mul_le_mul (by omega) (by omega)
   rw [if_neg (by omega),←ih,Nat.mul_comm B,e6,Nat.add_zero]
  ·rw [g,Nat.mul_one] at e6
   have:(T+p)*(T+p)≤r*r:=Nat.mul_le_mul (by omega) (by omega)
   rw [if_pos (by omega),←ih,Nat.mul_comm B,e6]
theorem zCf {n r:Nat} (h1:r*r≤n) (h2:n<(r+1)*(r+1)) (h3:r<4294967296):zAI (n:Int)=some (r:Int):=by
 have h:=zQX h1 h2 h3 32 (by omega)
 rw [show ((32:Nat):Int)-1=31 from rfl,Nat.div_eq_of_lt (by omega),Nat.zero_mul] at h
 rw [zAI]
 exact (congrArg (·>>=_) h).trans rfl
theorem zPD:zAz 576460752303423488=some 759250124:=zDI (by decide+kernel) (by decide+kernel) (by decide+kernel) (by decide)
theorem zPq:zAI 576460752303423488=some 759250124:= @zCf 576460752303423488 759250124 (by decide) (by decide) (by decide)
theorem zOK:zAz 815238613015986176=some 902905650:=zDI (by decide+kernel) (by decide+kernel) (by decide+kernel) (by decide)
theorem zPr:zAI 815238613015986176=some 902905650:= @zCf 815238613015986176 902905650 (by decide) (by decide) (by decide)
theorem zP4:zAz 407619306507993088=some 638450707:=zDI (by decide+kernel) (by decide+kernel) (by decide+kernel) (by decide)
theorem zPT:zAI 407619306507993088=some 638450707:= @zCf 407619306507993088 638450707 (by decide) (by decide) (by decide)
theorem zPf:zAz 969487559530905600=some 984625593:=zDI (by decide+kernel) (by decide+kernel) (by decide+kernel) (by decide)
theorem zPI:zAI 969487559530905600=some 984625593:= @zCf 969487559530905600 984625593 (by decide) (by decide) (by decide)
theorem zPV:zAz 685531226722800600=some 827968131:=zDI (by decide+kernel) (by decide+kernel) (by decide+kernel) (by decide)
theorem zO5:zAI 685531226722800600=some 827968131:= @zCf 685531226722800600 827968131 (by decide) (by decide) (by decide)
theorem zO6:zAz 484743778457637668=some 696235433:=zDI (by decide+kernel) (by decide+kernel) (by decide+kernel) (by decide)
theorem zO7:zAI 484743778457637668=some 696235433:= @zCf 484743778457637668 696235433 (by decide) (by decide) (by decide)
theorem zPu:zAz 342765613334134784=some 585461880:=zDI (by decide+kernel) (by decide+kernel) (by decide+kernel) (by decide)
theorem zOV:zAI 342765613334134784=some 585461880:= @zCf 342765613334134784 585461880 (by decide) (by decide) (by decide)
theorem zOc:zAz 1057233680184901632=some 1028218692:=zDI (by decide+kernel) (by decide+kernel) (by decide+kernel) (by decide)
theorem zN9:zAI 1057233680184901632=some 1028218692:= @zCf 1057233680184901632 1028218692 (by decide) (by decide) (by decide)
theorem zP0:zAz 889024011054300450=some 942880698:=zDI (by decide+kernel) (by decide+kernel) (by decide+kernel) (by decide)
theorem zP3:zAI 889024011054300450=some 942880698:= @zCf 889024011054300450 942880698 (by decide) (by decide) (by decide)
theorem zPp:zAz 747577103499840150=some 864625412:=zDI (by decide+kernel) (by decide+kernel) (by decide+kernel) (by decide)
theorem zP9:zAI 747577103499840150=some 864625412:= @zCf 747577103499840150 864625412 (by decide) (by decide) (by decide)
theorem zOP:zAz 628634906129798244=some 792864998:=zDI (by decide+kernel) (by decide+kernel) (by decide+kernel) (by decide)
theorem zO9:zAI 628634906129798244=some 792864998:= @zCf 628634906129798244 792864998 (by decide) (by decide) (by decide)
theorem zPn:zAz 528616838838443692=some 727060409:=zDI (by decide+kernel) (by decide+kernel) (by decide+kernel) (by decide)
theorem zOM:zAI 528616838838443692=some 727060409:= @zCf 528616838838443692 727060409 (by decide) (by decide) (by decide)
theorem zPJ:zAz 444512004437301131=some 666717334:=zDI (by decide+kernel) (by decide+kernel) (by decide+kernel) (by decide)
theorem zPU:zAI 444512004437301131=some 666717334:= @zCf 444512004437301131 666717334 (by decide) (by decide) (by decide)
theorem zOO:zAz 373788551207549160=some 611382491:=zDI (by decide+kernel) (by decide+kernel) (by decide+kernel) (by decide)
theorem zOR:zAI 373788551207549160=some 611382491:= @zCf 373788551207549160 611382491 (by decide) (by decide) (by decide)
theorem zPL:zAz 314317453456834560=some 560640217:=zDI (by decide+kernel) (by decide+kernel) (by decide+kernel) (by decide)
theorem zOU:zAI 314317453456834560=some 560640217:= @zCf 314317453456834560 560640217 (by decide) (by decide) (by decide)
theorem zZL:zHG=some (1073741824,1028218692,984625593,942880698,902905650,864625412,827968131,792864998,759250124,727060409,696235433,666717334,638450707,611382491,585461880,560640217,536870912):=by
 rw [zHG,zPD,zAb,show IntKind.u64.wrap (1073741824*759250124)=815238613015986176 by decide+kernel,zOK,zAb,show IntKind.u64.wrap (759250124*536870912)=407619306507993088 by decide+kernel,zP4,zAb,show IntKind.u64.wrap (1073741824*902905650)=969487559530905600 by decide+kernel,zPf,zAb,show IntKind.u64.wrap (902905650*759250124)=685531226722800600 by decide+kernel,zPV,zAb,show IntKind.u64.wrap (759250124*638450707)=484743778457637668 by decide+kernel,zO6,zAb,show IntKind.u64.wrap (638450707*536870912)=342765613334134784 by decide+kernel,zPu,zAb,show IntKind.u64.wrap (1073741824*984625593)=1057233680184901632 by decide+kernel,zOc,zAb,show IntKind.u64.wrap (984625593*902905650)=889024011054300450 by decide+kernel,zP0,zAb,show IntKind.u64.wrap (902905650*827968131)=747577103499840150 by decide+kernel,zPp,zAb,show IntKind.u64.wrap (827968131*759250124)=628634906129798244 by decide+kernel,zOP,zAb,show IntKind.u64.wrap (759250124*696235433)=528616838838443692 by decide+kernel,zPn,zAb,show IntKind.u64.wrap (696235433*638450707)=444512004437301131 by decide+kernel,zPJ,zAb,show IntKind.u64.wrap (638450707*585461880)=373788551207549160 by decide+kernel,zOO,zAb,show IntKind.u64.wrap (585461880*536870912)=314317453456834560 by decide+kernel,zPL,zAb]
theorem zC2 {x0 i i' n r:Int} {l l':List Int} (h1:i<16) (h2:0≤IntKind.i64.wrap (i-(at' [8,4,2,1] x0))∧IntKind.i64.wrap (i-(at' [8,4,2,1] x0))<(l.length:Int)) (h3:0≤IntKind.i64.wrap (i+(at' [8,4,2,1] x0))∧IntKind.i64.wrap (i+(at' [8,4,2,1] x0))<(l.length:Int))
  (hn:IntKind.u64.wrap ((at' l (IntKind.i64.wrap (i-(at' [8,4,2,1] x0))))*(at' l (IntKind.i64.wrap (i+(at' [8,4,2,1] x0)))))=n) (h4:zAI n=some r) (h5:0≤i∧i<(l.length:Int)) (h6:l.set (Int.toNat i) r=l') (h7:IntKind.i64.wrap (i+(IntKind.i64.wrap (2*(at' [8,4,2,1] x0))))=i'):
  zA1 x0 i l=zA1 x0 i' l':=by
 rw [zA1,if_pos h1,if_pos h2,if_pos h3,hn,h4,zAb,if_pos h5,zAb,zAb,h6,h7]
theorem zNl {x0 i:Int} {l:List Int} (h:¬i<16):zA1 x0 i l=some l:=by rw [zA1,if_neg h]
theorem zYX:zA1 0 8 [1073741824,0,0,0,0,0,0,0,0,0,0,0,0,0,0,0,536870912]=some [1073741824,0,0,0,0,0,0,0,759250124,0,0,0,0,0,0,0,536870912]:=((zC2 (x0:=0) (i:=8) (i':=24) (l:=[1073741824,0,0,0,0,0,0,0,0,0,0,0,0,0,0,0,536870912]) (l':=[1073741824,0,0,0,0,0,0,0,759250124,0,0,0,0,0,0,0,536870912]) (by decide) (by decide+kernel) (by decide+kernel) (by decide+kernel) zPq (by decide+kernel) (by decide+kernel) (by decide+kernel)).trans (zNl (by decide)))
theorem zYU:zA1 1 4 [1073741824,0,0,0,0,0,0,0,759250124,0,0,0,0,0,0,0,536870912]=some [1073741824,0,0,0,902905650,0,0,0,759250124,0,0,0,638450707,0,0,0,536870912]:=((zC2 (x0:=1) (i:=4) (i':=12) (l:=[1073741824,0,0,0,0,0,0,0,759250124,0,0,0,0,0,0,0,536870912]) (l':=[1073741824,0,0,0,902905650,0,0,0,759250124,0,0,0,0,0,0,0,536870912]) (by decide) (by decide+kernel) (by decide+kernel) (by decide+kernel) zPr (by decide+kernel) (by decide+kernel) (by decide+kernel)).trans ((zC2 (x0:=1) (i:=12) (i':=20) (l:=[1073741824,0,0,0,902905650,0,0,0,759250124,0,0,0,0,0,0,0,536870912]) (l':=[1073741824,0,0,0,902905650,0,0,0,759250124,0,0,0,638450707,0,0,0,536870912]) (by decide) (by decide+kernel) (by decide+kernel) (by decide+kernel) zPT (by decide+kernel) (by decide+kernel) (by decide+kernel)).trans (zNl (by decide))))
theorem zYp:zA1 2 2 [1073741824,0,0,0,902905650,0,0,0,759250124,0,0,0,638450707,0,0,0,536870912]=some [1073741824,0,984625593,0,902905650,0,827968131,0,759250124,0,696235433,0,638450707,0,585461880,0,536870912]:=((zC2 (x0:=2) (i:=2) (i':=6) (l:=[1073741824,0,0,0,902905650,0,0,0,759250124,0,0,0,638450707,0,0,0,536870912]) (l':=[1073741824,0,984625593,0,902905650,0,0,0,759250124,0,0,0,638450707,0,0,0,536870912]) (by decide) (by decide+kernel) (by decide+kernel) (by decide+kernel) zPI (by decide+kernel) (by decide+kernel) (by decide+kernel)).trans ((zC2 (x0:=2) (i:=6) (i':=10) (l:=[1073741824,0,984625593,0,902905650,0,0,0,759250124,0,0,0,638450707,0,0,0,536870912]) (l':=[1073741824,0,984625593,0,902905650,0,827968131,0,759250124,0,0,0,638450707,0,0,0,536870912]) (by decide) (by decide+kernel) (by decide+kernel) (by decide+kernel) zO5 (by decide+kernel) (by decide+kernel) (by decide+kernel)).trans ((zC2 (x0:=2) (i:=10) (i':=14) (l:=[1073741824,0,984625593,0,902905650,0,827968131,0,759250124,0,0,0,638450707,0,0,0,536870912]) (l':=[1073741824,0,984625593,0,902905650,0,827968131,0,759250124,0,696235433,0,638450707,0,0,0,536870912]) (by decide) (by decide+kernel) (by decide+kernel) (by decide+kernel) zO7 (by decide+kernel) (by decide+kernel) (by decide+kernel)).trans ((zC2 (x0:=2) (i:=14) (i':=18) (l:=[1073741824,0,984625593,0,902905650,0,827968131,0,759250124,0,696235433,0,638450707,0,0,0,536870912]) (l':=[1073741824,0,984625593,0,902905650,0,827968131,0,759250124,0,696235433,0,638450707,0,585461880,0,536870912]) (by decide) (by decide+kernel) (by decide+kernel) (by decide+kernel) zOV (by decide+kernel) (by decide+kernel) (by decide+kernel)).trans (zNl (by decide))))))
theorem zY7:zA1 3 1 [1073741824,0,984625593,0,902905650,0,827968131,0,759250124,0,696235433,0,638450707,0,585461880,0,536870912]=some [1073741824,1028218692,984625593,942880698,902905650,864625412,827968131,792864998,759250124,727060409,696235433,666717334,638450707,611382491,585461880,560640217,536870912]:=((zC2 (x0:=3) (i:=1) (i':=3) (l:=[1073741824,0,984625593,0,902905650,0,827968131,0,759250124,0,696235433,0,638450707,0,585461880,0,536870912]) (l':=[1073741824,1028218692,984625593,0,902905650,0,827968131,0,759250124,0,696235433,0,638450707,0,585461880,0,536870912]) (by decide) (by decide+kernel) (by decide+kernel) (by decide+kernel) zN9 (by decide+kernel) (by decide+kernel) (by decide+kernel)).trans ((zC2 (x0:=3) (i:=3) (i':=5) (l:=[1073741824,1028218692,984625593,0,902905650,0,827968131,0,759250124,0,696235433,0,638450707,0,585461880,0,536870912]) (l':=[1073741824,1028218692,984625593,942880698,902905650,0,827968131,0,759250124,0,696235433,0,638450707,0,585461880,0,536870912]) (by decide) (by decide+kernel) (by decide+kernel) (by decide+kernel) zP3 (by decide+kernel) (by decide+kernel) (by decide+kernel)).trans ((zC2 (x0:=3) (i:=5) (i':=7) (l:=[1073741824,1028218692,984625593,942880698,902905650,0,827968131,0,759250124,0,696235433,0,638450707,0,585461880,0,536870912]) (l':=[1073741824,1028218692,984625593,942880698,902905650,864625412,827968131,0,759250124,0,696235433,0,638450707,0,585461880,0,536870912]) (by decide) (by decide+kernel) (by decide+kernel) (by decide+kernel) zP9 (by decide+kernel) (by decide+kernel) (by decide+kernel)).trans ((zC2 (x0:=3) (i:=7) (i':=9) (l:=[1073741824,1028218692,984625593,942880698,902905650,864625412,827968131,0,759250124,0,696235433,0,638450707,0,585461880,0,536870912]) (l':=[1073741824,1028218692,984625593,942880698,902905650,864625412,827968131,792864998,759250124,0,696235433,0,638450707,0,585461880,0,536870912]) (by decide) (by decide+kernel) (by decide+kernel) (by decide+kernel) zO9 (by decide+kernel) (by decide+kernel) (by decide+kernel)).trans ((zC2 (x0:=3) (i:=9) (i':=11) (l:=[1073741824,1028218692,984625593,942880698,902905650,864625412,827968131,792864998,759250124,0,696235433,0,638450707,0,585461880,0,536870912]) (l':=[1073741824,1028218692,984625593,942880698,902905650,864625412,827968131,792864998,759250124,727060409,696235433,0,638450707,0,585461880,0,536870912]) (by decide) (by decide+kernel) (by decide+kernel) (by decide+kernel) zOM (by decide+kernel) (by decide+kernel) (by decide+kernel)).trans ((zC2 (x0:=3) (i:=11) (i':=13) (l:=[1073741824,1028218692,984625593,942880698,902905650,864625412,827968131,792864998,759250124,727060409,696235433,0,638450707,0,585461880,0,536870912]) (l':=[1073741824,1028218692,984625593,942880698,902905650,864625412,827968131,792864998,759250124,727060409,696235433,666717334,638450707,0,585461880,0,536870912]) (by decide) (by decide+kernel) (by decide+kernel) (by decide+kernel) zPU (by decide+kernel) (by decide+kernel) (by decide+kernel)).trans ((zC2 (x0:=3) (i:=13) (i':=15) (l:=[1073741824,1028218692,984625593,942880698,902905650,864625412,827968131,792864998,759250124,727060409,696235433,666717334,638450707,0,585461880,0,536870912]) (l':=[1073741824,1028218692,984625593,942880698,902905650,864625412,827968131,792864998,759250124,727060409,696235433,666717334,638450707,611382491,585461880,0,536870912]) (by decide) (by decide+kernel) (by decide+kernel) (by decide+kernel) zOR (by decide+kernel) (by decide+kernel) (by decide+kernel)).trans ((zC2 (x0:=3) (i:=15) (i':=17) (l:=[1073741824,1028218692,984625593,942880698,902905650,864625412,827968131,792864998,759250124,727060409,696235433,666717334,638450707,611382491,585461880,0,536870912]) (l':=[1073741824,1028218692,984625593,942880698,902905650,864625412,827968131,792864998,759250124,727060409,696235433,666717334,638450707,611382491,585461880,560640217,536870912]) (by decide) (by decide+kernel) (by decide+kernel) (by decide+kernel) zOU (by decide+kernel) (by decide+kernel) (by decide+kernel)).trans (zNl (by decide))))))))))
theorem zNx {x0 x1 far:Int} {l l':List Int} (h1:x0<4) (h2:0≤x0) (hf:at' [8,4,2,1] x0=far) (h:zA1 x0 far l=some l') (h4:IntKind.i64.wrap (x0+1)=x1):zBW x0 l=zBW x1 l':=by
 rw [zBW,if_pos (show x0<(([8,4,2,1]:List Nat).length:Int) from h1),if_pos ⟨h2,h1⟩,hf,h,zAb,h4]
theorem zZN:zGE=some expT:=by
 rw [zGE,if_pos (by decide),zAb,if_pos (by decide),zAb,if_pos (by decide),zAb]
 have e:zBW 0 [1073741824,0,0,0,0,0,0,0,0,0,0,0,0,0,0,0,536870912]=some expT:=(zNx (x0:=0) (x1:=1) (by decide) (by decide) (by decide) zYX (by decide)).trans ((zNx (x0:=1) (x1:=2) (by decide) (by decide) (by decide) zYU (by decide)).trans ((zNx (x0:=2) (x1:=3) (by decide) (by decide) (by decide) zYp (by decide)).trans ((zNx (x0:=3) (x1:=4) (by decide) (by decide) (by decide) zY7 (by decide)).trans (by rw [zBW,if_neg (by decide)];rfl))))
 exact (congrArg (·>>=_) e).trans rfl
end Go.Proofs.YtnmlihfpenjeiaaGreat.Abs
