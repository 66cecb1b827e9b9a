/- Plain facts: whole products and quotients of words. Conditions: none. -/
import Derived.Test.YtnmlihfpenjeiaaGreatPGw
import Derived.Test.YtnmlihfpenjeiaaGreatPD1
namespace Go.Proofs.YtnmlihfpenjeiaaGreat.Abs
open Go Go.RowKit Go.IntWalk
set_option linter.unusedVariables false
set_option linter.unusedSimpArgs false
set_option maxRecDepth 100000
theorem zF5 (m:Nat) (h:m<18446744073709551616):bAnd .u64 (m:Int) 4294967295=((m % 4294967296:Nat):Int):=by
 unfold bAnd
 rw [show IntKind.u64.bits=64 from rfl,BitVec.toNat_and,BitVec.toNat_ofInt,BitVec.toNat_ofInt]
 have e1:((m:Int) % ((2 ^ 64:Nat):Int)).toNat=m:=by omega
 have e2:((4294967295:Int) % ((2 ^ 64:Nat):Int)).toNat=2 ^ 32-1:=by omega
 rw [e1,e2,Nat.and_two_pow_sub_one_eq_mod,u64_in _ (by omega)]
theorem zFF (m:Nat):sShr .u64 (m:Int) 32=((m/4294967296:Nat):Int):=shrU m 32 (by omega)
theorem orU {x y:Nat} (hx:x<18446744073709551616) (hy:y<18446744073709551616):bOr .u64 (x:Int) (y:Int)=((x ||| y:Nat):Int):=by
 unfold bOr
 rw [show IntKind.u64.bits=64 from rfl,BitVec.toNat_or,BitVec.toNat_ofInt,BitVec.toNat_ofInt]
 have e1:((x:Int) % ((2 ^ 64:Nat):Int)).toNat=x:=by omega
 have e2:((y:Int) % ((2 ^ 64:Nat):Int)).toNat=y:=by omega
 rw [e1,e2,u64_in _ ?_]
 have:= @Nat.or_lt_two_pow x y 64 (by omega) (by omega)
 omega
theorem shlU (m k:Nat) (hk:k≤64):sShl .u64 (m:Int) (k:Int)=((m*2 ^ k % 18446744073709551616:Nat):Int):=by
 unfold sShl
 have e:min (k:Int).toNat IntKind.u64.bits=k:=by
  rw [show IntKind.u64.bits=64 from rfl,Int.toNat_natCast];omega
 rw [e,IntKind.wrap_u64,show (m:Int)*2 ^ k=((m*2 ^ k:Nat):Int) by push_cast;rfl]
 omega
theorem u64N {n:Nat} (h:n<18446744073709551616):IntKind.u64.wrap (n:Int)=(n:Int):=u64_in _ (by omega)
theorem zRd (a b:Nat):a*b=a/4294967296*(b/4294967296)*18446744073709551616+(a/4294967296*(b % 4294967296)+a % 4294967296*(b/4294967296))*4294967296+a % 4294967296*(b % 4294967296):=by
 conv=>lhs;rw [←Nat.div_add_mod a 4294967296,←Nat.div_add_mod b 4294967296]
 generalize a/4294967296=p
 generalize a % 4294967296=q
 generalize b/4294967296=r
 generalize b % 4294967296=s
 rw [Nat.add_mul,Nat.mul_add,Nat.mul_add]
 have e1:4294967296*p*(4294967296*r)=p*r*18446744073709551616:=by
  rw [Nat.mul_comm 4294967296 p,Nat.mul_assoc,←Nat.mul_assoc 4294967296 4294967296 r,Nat.mul_comm (4294967296*4294967296) r,←Nat.mul_assoc]
 have e2:4294967296*p*s=p*s*4294967296:=by rw [Nat.mul_assoc,Nat.mul_comm]
 have e3:q*(4294967296*r)=q*r*4294967296:=by rw [Nat.mul_left_comm,Nat.mul_comm]
 rw [e1,e2,e3];omega
theorem zFC {p q:Nat} (hp:p<4294967296) (hq:q<4294967296):p*q≤18446744065119617025:=Nat.mul_le_mul (show p≤4294967295 by omega) (show q≤4294967295 by omega)
theorem zS9 {a b:Nat} (ha:a<18446744073709551616) (hb:b<18446744073709551616):zDx (a:Int) (b:Int)=some (((a*b/18446744073709551616:Nat):Int),((a*b % 18446744073709551616:Nat):Int)):=by
 have hs:=zRd a b
 have x1:a/4294967296<4294967296:=by omega
 have x0:a % 4294967296<4294967296:=by omega
 have y1:b/4294967296<4294967296:=by omega
 have y0:b % 4294967296<4294967296:=by omega
 have m11:=zFC x1 y1
 have m10:=zFC x1 y0
 have m01:=zFC x0 y1
 have m00:=zFC x0 y0
 have hlo:IntKind.u64.wrap ((a:Int)*(b:Int))=((a*b % 18446744073709551616:Nat):Int):=by
  rw [IntKind.wrap_u64,show (a:Int)*(b:Int)=((a*b:Nat):Int) by push_cast;rfl];omega
 rw [zDx,hlo,zF5 a ha,zF5 b hb,zFF a,zFF b,hs]
 simp only [←Int.natCast_mul]
 generalize a/4294967296*(b/4294967296)=p11 at*
 generalize a/4294967296*(b % 4294967296)=p10 at*
 generalize a % 4294967296*(b/4294967296)=p01 at*
 generalize a % 4294967296*(b % 4294967296)=p00 at*
 rw [u64N (n:=p00) (by omega),u64N (n:=p10) (by omega),u64N (n:=p11) (by omega),u64N (n:=p01) (by omega),zFF,←Int.natCast_add,u64N (n:=p10+p00/4294967296) (by omega),zFF,zF5 _ (by omega),←Int.natCast_add,u64N (n:=p11+_) (by omega),←Int.natCast_add,u64N (n:=_+p01) (by omega),zFF,←Int.natCast_add,u64N (by omega)]
 congr 2
 omega
theorem zU3 (F:Int→Int→Option Int) (Y1 Y0 U1:Nat)
  (hF:∀x0 x1,F x0 x1=(((if x1≥4294967296 then some true else some (decide ((IntKind.u64.wrap (x1*(Y0:Int)))>(IntKind.u64.wrap ((IntKind.u64.wrap (4294967296*x0))+(U1:Int)))))):Option Bool)>>=fun j10=>
   if j10=true then some (IntKind.u64.wrap (x0+(Y1:Int)))>>=fun y11=>if y11≥4294967296 then some (IntKind.u64.wrap (x1-1)) else F y11 (IntKind.u64.wrap (x1-1)) else some x1))
  (h0:Y0<4294967296) (h1:U1<4294967296) (hy:Y1<4294967296):∀(f q r:Nat),r<4294967296→q<18446744073709551616→4294967296≤r+f*Y1→F (r:Int) (q:Int)=some ((dig Y1 Y0 U1 f q r:Nat):Int)
 | 0,q,r,hr,hq,hf=>by omega
 | f+1,q,r,hr,hq,hf=>by
  rw [hF,dig]
  have hc:(((if (q:Int)≥4294967296 then some true else some (decide ((IntKind.u64.wrap ((q:Int)*(Y0:Int)))>(IntKind.u64.wrap ((IntKind.u64.wrap (4294967296*(r:Int)))+(U1:Int)))))):Option Bool))=some (decide (q≥4294967296∨q*Y0>4294967296*r+U1)):=by
   by_cases c:q≥4294967296
   ·rw [if_pos (by omega)];simp [c]
   ·rw [if_neg (by omega)]
    have:=zFC (p:=q) (q:=Y0) (by omega) h0
    rw [←Int.natCast_mul,u64N (n:=q*Y0) (by omega),u64_in (4294967296*(r:Int)) (by omega),u64_in _ (by omega)]
    congr 1
    rw [decide_eq_decide]
    omega
  rw [hc,zAb]
  by_cases c:q≥4294967296∨q*Y0>4294967296*r+U1
  ·have hq0:0<q:=by
    rcases c with c | c
    ·omega
    ·rcases Nat.eq_zero_or_pos q with e | e
     ·subst e;omega
     ·exact e
   rw [if_pos (by simpa using c),if_pos c,zAb,←Int.natCast_add,u64N (n:=r+Y1) (by omega),show ((q:Int)-1)=((q-1:Nat):Int) by omega,u64N (n:=q-1) (by omega)]
   by_cases c2:r+Y1≥4294967296
   ·rw [if_pos (by omega),if_pos c2]
   ·rw [if_neg (by omega),if_neg c2]
    exact zU3 F Y1 Y0 U1 hF h0 h1 hy f (q-1) (r+Y1) (by omega) (by omega) (by rw [Nat.succ_mul] at hf;omega)
  ·rw [if_neg (by simpa using c),if_neg c]
theorem zYC {n:Nat} (h:0<n):2 ^ (wid n-1)≤n∧n<2 ^ wid n∧0<wid n:=by
 unfold wid
 rw [if_neg (by omega)]
 refine ⟨?_,Nat.lt_log2_self,by omega⟩
 rw [Nat.add_sub_cancel];exact Nat.log2_self_le (by omega)
theorem zZd {n:Nat} (h:n<18446744073709551616):wid n≤64:=by
 unfold wid
 split
 ·omega
 ·have:n.log2<64:=(Nat.log2_lt (by omega)).2 (by omega)
  omega
theorem dm32 (u L:Nat):u*18446744073709551616+L=(u*4294967296+L/4294967296)*4294967296+L % 4294967296:=by omega
theorem zTi {U U1 Y Q R:Nat} (hu:U<Y) (hY:Y<18446744073709551616) (h1:U1<4294967296) (hQ:Q=(U*4294967296+U1)/Y) (hR:R=(U*4294967296+U1) % Y):IntKind.u64.wrap (IntKind.u64.wrap (IntKind.u64.wrap ((U:Int)*4294967296)+((U1:Nat):Int))-IntKind.u64.wrap ((Q:Int)*(Y:Int)))=(R:Int):=by
 have hdm:=Nat.div_add_mod (U*4294967296+U1) Y
 have hlt:(U*4294967296+U1) % Y<Y:=Nat.mod_lt _ (by omega)
 rw [←hQ,←hR] at hdm
 rw [←hR] at hlt
 rw [←Int.natCast_mul,Nat.mul_comm Q Y]
 clear hQ hR
 generalize Y*Q=P at*
 simp only [IntKind.wrap_u64]
 omega
theorem zTn {β:Type} (F:Int→Int→Option Int) (K:Int→Option β) {U U1 Y Q:Nat} (hu:U<Y) (hY:Y<18446744073709551616) (hY2:9223372036854775808≤Y) (h1:U1<4294967296)
  (hF:∀x0 x1,F x0 x1=(((if x1≥4294967296 then some true else some (decide ((IntKind.u64.wrap (x1*((Y % 4294967296:Nat):Int)))>(IntKind.u64.wrap ((IntKind.u64.wrap (4294967296*x0))+(U1:Int)))))):Option Bool)>>=fun j10=>
   if j10=true then some (IntKind.u64.wrap (x0+((Y/4294967296:Nat):Int)))>>=fun y11=>if y11≥4294967296 then some (IntKind.u64.wrap (x1-1)) else F y11 (IntKind.u64.wrap (x1-1)) else some x1)) (hQ:Q=(U*4294967296+U1)/Y):
  (some (IntKind.u64.wrap (Int.tdiv (U:Int) ((Y/4294967296:Nat):Int)))>>=fun y6=>some (IntKind.u64.wrap ((U:Int)-IntKind.u64.wrap (y6*((Y/4294967296:Nat):Int))))>>=fun y8=>F y8 y6>>=K)=K (Q:Int):=by
 have hYd:Y/4294967296*4294967296+Y % 4294967296=Y:=by omega
 have hy1:2147483648≤Y/4294967296∧Y/4294967296<4294967296:=by omega
 have hy0:Y % 4294967296<4294967296:=by omega
 have hg:= @zWD (Y/4294967296) (Y % 4294967296) U U1 (by omega) h1
 have he:=zWF (y1:=Y/4294967296) (y0:=Y % 4294967296) (u:=U) (u1:=U1) (by omega) hy0 h1 2 (U/(Y/4294967296)) (U % (Y/4294967296)) (by rw [Nat.mul_comm];exact Nat.div_add_mod _ _) hg (by omega)
 have hml:U % (Y/4294967296)<Y/4294967296:=Nat.mod_lt _ (by omega)
 have hdl:=Nat.div_le_self U (Y/4294967296)
 have hL:=zU3 F (Y/4294967296) (Y % 4294967296) U1 hF hy0 h1 (by omega) 2 (U/(Y/4294967296)) (U % (Y/4294967296)) (by omega) (by omega) (by omega)
 rw [he,hYd,←hQ] at hL
 rw [show Int.tdiv (U:Int) ((Y/4294967296:Nat):Int)=((U/(Y/4294967296):Nat):Int) from rfl]
 have hq1:=Nat.div_add_mod U (Y/4294967296)
 have hq1l:U/(Y/4294967296)≤U:=Nat.div_le_self _ _
 rw [u64N (n:=U/(Y/4294967296)) (by omega),zAb,←Int.natCast_mul,u64N (n:=U/(Y/4294967296)*(Y/4294967296)) (by rw [Nat.mul_comm];omega),show (U:Int)-((U/(Y/4294967296)*(Y/4294967296):Nat):Int)=((U % (Y/4294967296):Nat):Int) by rw [Nat.mul_comm];omega,u64N (n:=U % (Y/4294967296)) (by omega),zAb,hL,zAb]
theorem zWd {hi lo y A B:Nat} (hl:lo<18446744073709551616) (hy:y<18446744073709551616) (hh:hi<y) (hA:A=(hi*18446744073709551616+lo)/y) (hB:B=(hi*18446744073709551616+lo) % y):
  zEe (hi:Int) (lo:Int) (y:Int)=some ((A:Int),(B:Int)):=by
 have hy0:0<y:=by omega
 rw [zEe,if_neg (by omega),zAb,if_neg (by omega),zAb]
 by_cases h0:hi=0
 ·subst h0
  rw [Nat.zero_mul,Nat.zero_add] at hA hB
  rw [if_pos (show ((0:Nat):Int)=0 from rfl),if_pos (by omega),if_pos (by omega)]
  have e1:Int.tdiv (lo:Int) (y:Int)=((lo/y:Nat):Int):=rfl
  have e2:Int.tmod (lo:Int) (y:Int)=((lo % y:Nat):Int):=rfl
  rw [e1,e2,u64N (Nat.lt_of_le_of_lt (Nat.div_le_self _ _) hl),hA,hB]
 rw [if_neg (by omega)]
 obtain ⟨wa,wb,wc⟩:=zYC hy0
 have w64:=zZd hy
 obtain ⟨s,hs,hs64⟩:∃s:Nat,s+wid y=64∧s<64:=⟨64-wid y,by omega,by omega⟩
 have hLZ:zC0 (y:Int)=some ((s:Nat):Int):=by
  rw [zC0,zXL hy,zAb,i64_in _ (by omega)]
  congr 1;omega
 have hp:0<2 ^ s:=Nat.two_pow_pos s
 have hY:y*2 ^ s<18446744073709551616:=by
  have:y*2 ^ s<2 ^ wid y*2 ^ s:=Nat.mul_lt_mul_of_pos_right wb hp
  rw [←Nat.pow_add,show wid y+s=64 by omega] at this
  omega
 have hY2:9223372036854775808≤y*2 ^ s:=by
  have:2 ^ (wid y-1)*2 ^ s≤y*2 ^ s:=Nat.mul_le_mul_right _ wa
  rw [←Nat.pow_add,show wid y-1+s=63 by omega] at this
  omega
 have hH:hi*2 ^ s+2 ^ s≤y*2 ^ s:=by
  have:(hi+1)*2 ^ s≤y*2 ^ s:=Nat.mul_le_mul_right _ (by omega)
  rw [Nat.succ_mul] at this;exact this
 have hlos:lo/2 ^ (64-s)<2 ^ s:=by
  rw [Nat.div_lt_iff_lt_mul (Nat.two_pow_pos _),←Nat.pow_add,show s+(64-s)=64 by omega];omega
 have hu:bOr .u64 (sShl .u64 (hi:Int) (s:Int)) (sShr .u64 (lo:Int) ((64-s:Nat):Int))=((hi*2 ^ s+lo/2 ^ (64-s):Nat):Int):=by
  rw [shlU _ _ (by omega),Nat.mod_eq_of_lt (by omega),shrU _ _ (by omega),orU (by omega) (by omega)]
  congr 1
  rw [Nat.mul_comm hi]
  exact (Nat.two_pow_add_eq_or_of_lt hlos hi).symm
 have hYe:sShl .u64 (y:Int) (s:Int)=((y*2 ^ s:Nat):Int):=by rw [shlU _ _ (by omega),Nat.mod_eq_of_lt hY]
 have hLe:=shlU lo s (by omega)
 have hN:(hi*18446744073709551616+lo)*2 ^ s=(hi*2 ^ s+lo/2 ^ (64-s))*18446744073709551616+lo*2 ^ s % 18446744073709551616:=by
  have h64:lo*2 ^ s/18446744073709551616=lo/2 ^ (64-s):=by
   rw [show (18446744073709551616:Nat)=2 ^ (64-s)*2 ^ s by rw [←Nat.pow_add,show 64-s+s=64 by omega]]
   exact Nat.mul_div_mul_right _ _ hp
  have hd:=Nat.div_add_mod (lo*2 ^ s) 18446744073709551616
  rw [h64] at hd
  rw [Nat.add_mul,Nat.add_mul,Nat.mul_right_comm]
  omega
 obtain ⟨d1,d2⟩:= @zW9 (hi*18446744073709551616+lo) y s
 rw [←d1,hN,dm32] at hA
 rw [←d2,hN,dm32] at hB
 rw [hLZ,zAb,u64N (n:=s) (by omega),if_pos (by omega),if_pos (by omega),show (64:Int)-(s:Int)=((64-s:Nat):Int) by omega,u64N (n:=64-s) (by omega),if_pos (by omega),hu,zAb,if_pos (by omega),hYe,zFF,hLe]
 have huY:hi*2 ^ s+lo/2 ^ (64-s)<y*2 ^ s:=by omega
 have hL64:lo*2 ^ s % 18446744073709551616<18446744073709551616:=Nat.mod_lt _ (by omega)
 have s64:IntKind.u64.wrap (s:Int)=(s:Int):=u64N (by omega)
 clear hN d1 d2 hu hH hlos wa wb wc w64 hLZ hp h0
 generalize y*2 ^ s=Y at hA hB huY hY hY2 hYe⊢
 generalize hi*2 ^ s+lo/2 ^ (64-s)=u at hA hB huY⊢
 generalize lo*2 ^ s % 18446744073709551616=L at hA hB hL64 hLe⊢
 have hL1:L/4294967296<4294967296:=by omega
 have hL0:L % 4294967296<4294967296:=by omega
 obtain ⟨t1,t2⟩:= @zYT (u*4294967296+L/4294967296) Y (L % 4294967296) (by omega)
 have hR:(u*4294967296+L/4294967296) % Y<Y:=Nat.mod_lt _ (by omega)
 have hQ:(u*4294967296+L/4294967296)/Y<4294967296:=by
  rw [Nat.div_lt_iff_lt_mul (by omega)];omega
 obtain ⟨R,eR⟩:∃R,R=(u*4294967296+L/4294967296) % Y:=⟨_,rfl⟩
 obtain ⟨Q,eQ⟩:∃Q,Q=(u*4294967296+L/4294967296)/Y:=⟨_,rfl⟩
 rw [←eR,←eQ] at t1
 rw [←eR] at t2 hR
 rw [←eQ] at hQ
 rw [t1] at hA
 rw [t2] at hB
 rw [if_pos (by omega),zTn (fun x0 x1=>zBR (lo:Int) (y:Int) (s:Int) (u:Int) x0 x1) _ huY hY hY2 hL1 (fun x0 x1=>by
  show zBR _ _ _ _ _ _=_
  rw [zBR,s64,hYe,hLe,zFF,zFF,zF5 _ hY]) eQ]
 rw [zFF L,zTi huY hY hL1 eQ eR,zAb,if_pos (by omega)]
 clear eR eQ t1 t2
 have hQ2:(R*4294967296+L % 4294967296)/Y<4294967296:=by
  rw [Nat.div_lt_iff_lt_mul (by omega)];omega
 have hR2:(R*4294967296+L % 4294967296) % Y<Y:=Nat.mod_lt _ (by omega)
 obtain ⟨R2,eR2⟩:∃R2,R2=(R*4294967296+L % 4294967296) % Y:=⟨_,rfl⟩
 obtain ⟨Q2,eQ2⟩:∃Q2,Q2=(R*4294967296+L % 4294967296)/Y:=⟨_,rfl⟩
 rw [←eR2] at hB hR2
 rw [←eQ2] at hA hQ2
 rw [zTn (fun x0 x1=>zBU (lo:Int) (y:Int) (s:Int) (Q:Int) (R:Int) x0 x1) _ hR hY hY2 hL0 (fun x0 x1=>by
  show zBU _ _ _ _ _ _ _=_
  rw [zBU,s64,hYe,hLe,zFF,zF5 _ hY,zF5 _ hL64]) eQ2]
 rw [zF5 L hL64,zTi hR hY hL0 eQ2 eR2,zAb,zAb,if_pos (by omega),shrU _ _ (by omega),←hB]
 congr 2
 rw [u64_in ((Q:Int)*4294967296) (by omega),u64_in _ (by omega)]
 omega
theorem zXv {hi lo y:Nat} (hl:lo<18446744073709551616) (hy:y<18446744073709551616) (hh:hi<y):
 zEe (hi:Int) (lo:Int) (y:Int)=some ((((hi*18446744073709551616+lo)/y:Nat):Int),(((hi*18446744073709551616+lo) % y:Nat):Int)):=zWd hl hy hh rfl rfl
end Go.Proofs.YtnmlihfpenjeiaaGreat.Abs
