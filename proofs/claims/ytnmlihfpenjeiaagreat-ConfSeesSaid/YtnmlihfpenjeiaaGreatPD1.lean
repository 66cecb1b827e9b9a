/- Plain facts: whole quotients of two words by one, digit by digit. Conditions: none. -/
import Derived.Test.YtnmlihfpenjeiaaGreatPB
namespace Go.Proofs.YtnmlihfpenjeiaaGreat.Abs
open Go Go.RowKit Go.IntWalk
set_option linter.unusedVariables false
def dig (y1 y0 u1:Nat):Nat→Nat→Nat→Nat
 | 0,q,_=>q
 | f+1,q,r=>if q≥4294967296∨q*y0>4294967296*r+u1 then (if r+y1≥4294967296 then q-1 else dig y1 y0 u1 f (q-1) (r+y1)) else q
theorem zWh {q y1 y0 r u:Nat} (h:q*y1+r=u):q*(y1*4294967296+y0)+r*4294967296=u*4294967296+q*y0:=by
 rw [←h,Nat.mul_add,Nat.add_mul,←Nat.mul_assoc];omega
theorem zUI {q y1 y0 r u u1:Nat} (h:q*y1+r=u) (hu:u<y1*4294967296+y0) (h0:y0<4294967296) (hr:4294967296≤r):q≤(u*4294967296+u1)/(y1*4294967296+y0):=by
 have hy:0<y1*4294967296+y0:=by omega
 rw [Nat.le_div_iff_mul_le hy]
 have h1:=zWh (y0:=y0) h
 have hq:q≤4294967296:=by
  rcases Nat.lt_or_ge 4294967296 q with hlt | hge
  ·have:(4294967296+1)*y1≤q*y1:=Nat.mul_le_mul_right y1 hlt
   omega
  ·exact hge
 have h2:q*y0≤4294967296*y0:=Nat.mul_le_mul_right y0 hq
 omega
theorem zWF {y1 y0 u u1:Nat} (hu:u<y1*4294967296+y0) (h0:y0<4294967296) (h1:u1<4294967296):∀(f q r:Nat),q*y1+r=u→(u*4294967296+u1)/(y1*4294967296+y0)≤q→4294967296≤r+f*y1→
  dig y1 y0 u1 f q r=(u*4294967296+u1)/(y1*4294967296+y0)
 | 0,q,r,h,hq,hr=>Nat.le_antisymm (zUI h hu h0 (by omega)) hq
 | f+1,q,r,h,hq,hr=>by
  have hy:0<y1*4294967296+y0:=by omega
  have hid:=zWh (y0:=y0) h
  have hQ:(u*4294967296+u1)/(y1*4294967296+y0)<4294967296:=by
   rw [Nat.div_lt_iff_lt_mul hy]
   omega
  rw [dig]
  by_cases hc:q≥4294967296∨q*y0>4294967296*r+u1
  ·have hlt:(u*4294967296+u1)/(y1*4294967296+y0)<q:=by
    rcases hc with hc | hc
    ·exact Nat.lt_of_lt_of_le hQ hc
    ·rw [Nat.div_lt_iff_lt_mul hy];omega
   have h':(q-1)*y1+(r+y1)=u:=by
    have:q*y1=(q-1)*y1+y1:=by
     conv=>lhs;rw [show q=(q-1)+1 from (Nat.succ_pred_eq_of_pos (Nat.lt_of_le_of_lt (Nat.zero_le _) hlt)).symm,Nat.succ_mul]
    omega
   rw [if_pos hc]
   split
   ·rename_i hr2
    exact Nat.le_antisymm (zUI h' hu h0 hr2) (Nat.le_sub_one_of_lt hlt)
   ·exact zWF hu h0 h1 f (q-1) (r+y1) h' (Nat.le_sub_one_of_lt hlt) (by rw [Nat.succ_mul] at hr;omega)
  ·rw [if_neg hc]
   refine Nat.le_antisymm ?_ hq
   rw [Nat.le_div_iff_mul_le hy]
   have:q*y0≤4294967296*r+u1:=by
    rcases Nat.lt_or_ge (4294967296*r+u1) (q*y0) with h | h
    ·exact absurd (.inr h) hc
    ·exact h
   omega
theorem zWD {y1 y0 u u1:Nat} (hy1:0<y1) (h1:u1<4294967296):(u*4294967296+u1)/(y1*4294967296+y0)≤u/y1:=by
 rw [Nat.le_div_iff_mul_le hy1]
 have h:=Nat.div_mul_le_self (u*4294967296+u1) (y1*4294967296+y0)
 generalize (u*4294967296+u1)/(y1*4294967296+y0)=q at*
 rw [Nat.mul_add,←Nat.mul_assoc] at h
 omega
theorem zYT {N Y u0:Nat} (hY:0<Y):(N*4294967296+u0)/Y=N/Y*4294967296+(N % Y*4294967296+u0)/Y∧(N*4294967296+u0) % Y=(N % Y*4294967296+u0) % Y:=by
 have h:N*4294967296+u0=Y*(N/Y*4294967296)+(N % Y*4294967296+u0):=by
  conv=>lhs;rw [←Nat.div_add_mod N Y]
  rw [Nat.add_mul,Nat.mul_assoc];omega
 constructor
 ·conv=>lhs;rw [h]
  rw [Nat.mul_add_div hY]
 ·conv=>lhs;rw [h]
  rw [Nat.mul_add_mod]
theorem zW9 {N y s:Nat}:(N*2 ^ s)/(y*2 ^ s)=N/y∧((N*2 ^ s) % (y*2 ^ s))/2 ^ s=N % y:=by
 have h2:0<2 ^ s:=Nat.two_pow_pos s
 constructor
 ·exact Nat.mul_div_mul_right N y h2
 ·rw [Nat.mul_mod_mul_right,Nat.mul_div_cancel _ h2]
end Go.Proofs.YtnmlihfpenjeiaaGreat.Abs
