/- Plain facts: codes, lists that rise. Conditions: none. -/
import Derived.Test.YtdgdgfckcnjpfaaGreatPB
import Derived.Test.YtdgdgfckcnjpfaaGreatZM
namespace Go.Proofs.YtdgdgfckcnjpfaaGreat.Abs
open Go Go.RowKit Go.IntWalk
set_option linter.unusedVariables false
set_option linter.unusedSimpArgs false
set_option linter.unusedSectionVars false
set_option linter.unnecessarySimpa false
set_option maxRecDepth 100000
def zBt:List Int→Bool
 | []=>true
 | x::t=>(match t with
  | []=>true
  | y::_=>decide (x<y))&&zBt t
theorem zVM (l:List Int) (hl:l.length≤4611686018427387904):∀(t:List Int) (x:Int) (k:Nat),l.drop k=x::t→zCd l ((k+1:Nat):Int)=some (if zBt (x::t) then .inr () else .inl false)
 | [],x,k,h=>by
  have h1:=zAm h
  rw [zCd,if_neg (zAI h1.2.2)]
  simp [zBt]
 | y::t,x,k,h=>by
  have h1:=zAm h
  have h2:=zAm h1.2.2
  have e1:IntKind.i64.wrap (((k+1:Nat):Int)-1)=(k:Int):=by rw [i64_in _ (by omega)];omega
  rw [zCd,if_pos h2.1,e1,if_pos (by omega),if_pos (by omega),h1.2.1,h2.2.1,zA6 (by omega),zVM l hl t y (k+1) h1.2.2]
  by_cases hxy:x<y
  ·rw [if_neg (by omega)];simp [zBt,hxy]
  ·rw [if_pos (by omega)];simp [zBt,hxy]
theorem zWc (l:List Int) (hl:l.length≤4611686018427387904):zEw l=some (zBt l):=by
 cases l with
 | nil=>rw [zEw,zCd];simp [zBt]
 | cons x t=>
  have:=zVM (x::t) hl t x 0 rfl
  rw [zEw,show (1:Int)=((0+1:Nat):Int) from rfl,this]
  cases zBt (x::t)<;>rfl
def meas (dim:Int):Bool:=decide (0<dim)&&decide (dim≤4096)
def zJY (dim:Int) (l:List Int):Bool:=meas dim&&zBt l&&l.all fun n=>decide (0≤n)&&decide (n<dim)
def zC6 (dim:Int) (l:List Int):Int:=if zJY dim l then 0 else 1
theorem zSp {lo hi:Int}:∀{l:List Int},zBt l=true→(∀x,l.head? =some x→lo≤x)→(∀x,l.getLast? =some x→x<hi)→∀n∈l,lo≤n∧n<hi
 | [],_,_,_,n,h=>by simp at h
 | [x],_,h1,h2,n,h=>by
  simp only [List.mem_singleton] at h;subst h
  exact ⟨h1 _ rfl,h2 _ rfl⟩
 | x::y::t,hr,h1,h2,n,h=>by
  simp only [zBt,Bool.and_eq_true,decide_eq_true_eq] at hr
  have hx:=h1 x rfl
  have ih:=zSp (lo:=lo) (hi:=hi) (l:=y::t) (by simpa only [zBt,Bool.and_eq_true] using hr.2) (fun z hz=>by
   simp only [List.head?_cons,Option.some.injEq] at hz;subst hz;omega) (fun z hz=>h2 z (by rw [List.getLast?_cons_cons];exact hz))
  rcases List.mem_cons.1 h with rfl | h
  ·exact ⟨hx,by have:=(ih y (by simp)).2;omega⟩
  ·exact ih n h
theorem zPD {dim:Int} {l:List Int}:(l.all fun n=>decide (0≤n)&&decide (n<dim))=true↔∀n∈l,0≤n∧n<dim:=by
 simp [List.all_eq_true]
theorem zSC (dim:Int):zED dim=some (meas dim):=by
 rw [zED,andB]
 simp [meas]
theorem zRc (dim:Int) (l:List Int) (hl:l.length≤4611686018427387904):zEy dim l=some (zC6 dim l):=by
 rw [zEy,zSC,zAb,zWc l hl,zAb,orB]
 cases hm:meas dim with
 | false=>simp [zC6,zJY,hm]
 | true=>
  cases hr:zBt l with
  | false=>simp [zC6,zJY,hr]
  | true=>
   rw [if_neg (by simp)]
   cases l with
   | nil=>simp [zC6,zJY,hm,hr]
   | cons x t=>
    have e1:IntKind.i64.wrap ((((x::t).length:Nat):Int)-1)=((t.length:Nat):Int):=by rw [i64_in _ (by simp at hl⊢;omega)];simp
    have e2:at' (x::t) ((t.length:Nat):Int)=(x::t).getLast (by simp):=by
     rw [zAcR,List.getLast_eq_getElem];simp
    rw [if_pos (by simp<;>omega),if_pos (by simp<;>omega),zWH]
    by_cases h0:x<0
    ·rw [if_pos h0,zC6,if_neg]
     intro hp
     simp only [zJY,Bool.and_eq_true,zPD] at hp
     have:=(hp.2 x (by simp)).1
     omega
    ·rw [if_neg h0,e1,if_pos (by simp<;>omega),e2]
     by_cases h1:(x::t).getLast (by simp)≥dim
     ·rw [if_pos h1,zC6,if_neg]
      intro hp
      simp only [zJY,Bool.and_eq_true,zPD] at hp
      have:=(hp.2 _ (List.getLast_mem (by simp:x::t≠[]))).2
      omega
     ·rw [if_neg h1,zC6,if_pos]
      simp only [zJY,hm,hr,Bool.and_eq_true,zPD,true_and]
      exact zSp hr (fun z hz=>by simp only [List.head?_cons,Option.some.injEq] at hz;omega) (fun z hz=>by
       rw [List.getLast?_eq_some_getLast (by simp),Option.some.injEq] at hz;omega)
def lebP (n:Int):List Int:=if 127<n then bOr .u8 (IntKind.u8.wrap n) 128::lebP (sShr .u64 n 7) else [IntKind.u8.wrap n]
 termination_by n.toNat
 decreasing_by
 simp only [sShr]
 have:min (7:Int).toNat IntKind.u64.bits=7:=by decide
 rw [this,Int.fdiv_eq_ediv_of_nonneg _ (by decide)]
 omega
theorem shr7 (n:Int):sShr .u64 n 7=n/128:=by
 simp only [sShr]
 have:min (7:Int).toNat IntKind.u64.bits=7:=by decide
 rw [this,Int.fdiv_eq_ediv_of_nonneg _ (by decide)];rfl
theorem zDe (n:Int) (h:n≤18446744073709551615):(lebP n).length≤10:=by
 suffices ∀(k:Nat) (n:Int),n<128 ^ (k+1)→(lebP n).length≤k+1 from this 9 n (by omega)
 intro k
 induction k with
 | zero=>intro n h;rw [lebP,if_neg (by omega)];simp
 | succ k ih=>
  intro n h
  rw [lebP]
  split
  ·have:=ih (sShr .u64 n 7) (by
    rw [shr7]
    have e:(128:Int) ^ (k+1+1)=128*128 ^ (k+1):=by rw [Int.pow_succ,Int.mul_comm]
    rw [e] at h
    omega)
   simpa using this
  ·simp
theorem zY8 (b:List Int) (n:Int) (hb:b.length+(lebP n).length≤140737488355328):∃c m,zDx b n=some (c,m)∧c++[IntKind.u8.wrap m]=b++lebP n:=by
 suffices ∀(k:Nat) (b:List Int) (n:Int),n.toNat≤k→b.length+(lebP n).length≤140737488355328→∃c m,zDx b n=some (c,m)∧c++[IntKind.u8.wrap m]=b++lebP n from this _ b n (Nat.le_refl _) hb
 clear hb n b
 intro k
 induction k with
 | zero=>
  intro b n hn hb
  rw [zDx,if_neg (by omega),lebP,if_neg (by omega)]
  exact ⟨b,n,rfl,rfl⟩
 | succ k ih=>
  intro b n hn hb
  rw [zDx]
  by_cases h:127<n
  ·rw [lebP,if_pos h] at hb
   simp only [List.length_cons] at hb
   rw [if_pos h,if_pos (zHl (by simp;omega))]
   obtain ⟨c,m,h1,h2⟩:=ih (b++[bOr .u8 (IntKind.u8.wrap n) 128]) (sShr .u64 n 7) (by rw [shr7];omega) (by simp;omega)
   refine ⟨c,m,h1, ?_⟩
   rw [h2]
   conv=>rhs;rw [lebP,if_pos h]
   simp
  ·rw [if_neg h,lebP,if_neg h]
   exact ⟨b,n,rfl,rfl⟩
theorem zRF (b:List Int) (n:Int) (hb:b.length+(lebP n).length≤140737488355328):zJT b n=some (b++lebP n):=by
 obtain ⟨c,m,h1,h2⟩:=zY8 b n hb
 have:=congrArg List.length h2
 simp only [List.length_append] at this
 rw [zJT,h1,zAb,if_pos (zHl (by simp only [List.length_append] at this⊢;omega)),h2]
theorem zWh (b:List Int) (hb:b.length≤140737488355328):zAZ b=some b:=by
 rw [zAZ]
 simp only [List.nil_append]
 rw [if_pos (zHl hb)]
theorem zRz (ns:List Int) (hn:ns.length≤4611686018427387904):∀(t:List Int) (k:Nat) (b:List Int),ns.drop k=t→b.length+(t.flatMap lebP).length≤140737488355328→zD2 ns (k:Int) b=some (b++t.flatMap lebP)
 | [],k,b,h,hb=>by
  rw [zD2,if_neg (zAI h)];simp
 | x::t,k,b,h,hb=>by
  have h1:=zAm h
  simp only [List.flatMap_cons,List.length_append] at hb
  rw [zD2,if_pos h1.1,if_pos (by omega),h1.2.1,zRF b x (by omega),zAb,zA6 (by omega),zRz ns hn t (k+1) _ h1.2.2 (by simp only [List.length_append];omega)]
  simp
theorem zHR (b ns:List Int) (hn:ns.length≤4611686018427387904) (hb:b.length+(ns.flatMap lebP).length≤140737488355328):zEI b ns=some (b++ns.flatMap lebP):=by
 have h1:=zRz ns hn ns 0 b rfl hb
 rw [show ((0:Nat):Int)=0 from rfl] at h1
 rw [zEI,zWh b (by omega),zAb,h1,zAb]
def gaps (last:Int):List Int→List Int
 | []=>[]
 | n::r=>IntKind.u64.wrap (IntKind.i64.wrap (IntKind.i64.wrap (n-last)-1))::gaps n r
theorem zG8:∀(last:Int) (l:List Int),(gaps last l).length=l.length
 | _,[]=>rfl
 | last,n::r=>by simp [gaps,zG8 n r]
theorem zIh:∀(l:List Int),(∀n∈l,n≤18446744073709551615)→(l.flatMap lebP).length≤10*l.length
 | [],_=>by simp
 | n::l,h=>by
  have h1:=zDe n (h n (by simp))
  have h2:=zIh l fun m hm=>h m (by simp [hm])
  simp only [List.flatMap_cons,List.length_append,List.length_cons]
  omega
theorem zN7:∀(last:Int) (l:List Int),∀n∈gaps last l,0≤n∧n≤18446744073709551615
 | _,[],n,h=>by simp [gaps] at h
 | last,m::r,n,h=>by
  simp only [gaps,List.mem_cons] at h
  rcases h with rfl | h
  ·exact zSj _
  ·exact zN7 m r n h
def putB (dim:Int) (l:List Int):List Int:=if zC6 dim l=0 then (IntKind.u64.wrap l.length::gaps (-1) l).flatMap lebP else []
theorem zZK (l:List Int) (hl:l.length≤1099511627776):∀(t:List Int) (k:Nat) (last:Int) (b:List Int),l.drop k=t→b.length+t.length≤1099511627777→zDn l (k:Int) last b=some (b++gaps last t)
 | [],k,last,b,h,hb=>by
  rw [zDn,if_neg (zAI h)];simp [gaps]
 | x::t,k,last,b,h,hb=>by
  have h1:=zAm h
  simp only [List.length_cons] at hb
  rw [zDn,if_pos h1.1,if_pos (by omega),if_pos (zJv (by simp;omega)),zAb,zA6 (by omega),h1.2.1,zZK l hl t (k+1) x _ h1.2.2 (by simp;omega)]
  simp [gaps]
theorem zAdz (dim:Int) (l:List Int) (hl:l.length≤1099511627776):zJK dim l=some (putB dim l,zC6 dim l):=by
 rw [zJK,zRc dim l (by omega),zAb]
 by_cases h:zC6 dim l=0
 ·have e1:IntKind.i64.wrap ((l.length:Int)+1)=l.length+1:=i64_in _ (by omega)
  have h1:=zZK l hl l 0 (-1) [IntKind.u64.wrap (l.length:Int)] rfl (by simp;omega)
  rw [show ((0:Nat):Int)=0 from rfl] at h1
  rw [if_neg (by simp [h]),e1,if_pos (by omega),zAb]
  simp only [Int.toNat_zero,List.replicate_zero,List.nil_append]
  rw [if_pos (zJv (by simp)),zAb,h1,zAb]
  have h2:=zIh (IntKind.u64.wrap l.length::gaps (-1) l) (by
   intro n hn
   rcases List.mem_cons.1 hn with rfl | hn
   ·exact (zSj _).2
   ·exact (zN7 _ _ n hn).2)
  simp only [List.length_cons,zG8] at h2
  rw [List.cons_append,List.nil_append,zHR [] _ (by simp [zG8];omega) (by simp only [List.length_nil];omega),zAb,putB,if_pos h,h]
  simp
 ·rw [if_pos h,putB,if_neg h]
def U8s (b:List Int):Prop:=∀x∈b,0≤x∧x≤255
theorem zAc8 {x:Int} (h0:0≤x) (h1:x≤255):bAnd .u8 x 127=x % 128:=by
 have h:∀i:Fin 256,bAnd .u8 ((i.val:Nat):Int) 127=((i.val:Nat):Int) % 128:=by decide+kernel
 have:=h ⟨x.toNat,by omega⟩
 simpa [Int.toNat_of_nonneg h0] using this
def zCC (at0:Int):List Int→Nat→Int→Int×Int×Int
 | [],_,_=>(0,0,5)
 | x::c,k,n=>
  if (k=9∧1<x)∨(x=0∧0<k) then (0,0,6)
  else if x<128 then (bOr .u64 n (sShl .u64 (x % 128) (7*(k:Int))),IntKind.i64.wrap (at0+k)+1,0)
  else zCC at0 c (k+1) (bOr .u64 n (sShl .u64 (x % 128) (7*(k:Int))))
def getP (b:List Int) (at0:Int):Int×Int×Int:=if at0<0 then (0,0,1) else zCC at0 (b.drop at0.toNat) 0 0
theorem zYD (at0:Int) (y:List Int) (h0:0≤at0) (ha:at0+y.length≤9223372036854775806∨y=[]) (hu:U8s y):∀(c:List Int) (k:Nat) (n:Int),k≤9→y.drop k=c→
  zEh at0 y (k:Int) n=some (if zCC at0 c k n=(0,0,5)∧(∀x∈c,128≤x) then .inr () else .inl (zCC at0 c k n)):=by
 intro c
 induction c with
 | nil=>
  intro k n hk h
  rw [zEh,if_neg (zAI h)];simp [zCC]
 | cons x c ih=>
  intro k n hk h
  have h1:=zAm h
  have hx:0≤x∧x≤255:=hu x (List.mem_of_mem_drop (by rw [h];simp))
  have ha':at0+y.length≤9223372036854775806:=by
   rcases ha with ha | rfl
   ·exact ha
   ·simp at h
  rw [zEh,if_pos h1.1,if_pos (by omega),h1.2.1]
  simp only [orB,andB]
  have e1:IntKind.i64.wrap (7*(k:Int))=7*k:=i64_in _ (by omega)
  have e2:IntKind.i64.wrap (at0+(k:Int))=at0+k:=i64_in _ (by omega)
  have e3:IntKind.u64.wrap (bAnd .u8 x 127)=x % 128:=by rw [zAc8 hx.1 hx.2,u64_in _ (by omega)]
  by_cases hb:(k=9∧1<x)∨(x=0∧0<k)
  ·rw [if_pos (by simp;omega),zCC,if_pos hb]
   simp
  ·rw [if_neg (by simp;omega),e1,if_pos (by omega),e3,zAb,zCC,if_neg hb]
   by_cases hx1:x<128
   ·rw [if_pos hx1,if_pos hx1,e2]
    rw [i64_in (at0+k+1) (by omega),if_neg (by simp)]
   ·rw [if_neg hx1,if_neg hx1,zA6 (by omega),ih (k+1) _ (by omega) h1.2.2]
    simp only [List.mem_cons,forall_eq_or_imp,show 128≤x by omega,true_and]
theorem zAbE {α:Type} (l:List α) (a:Int) (h:a≤l.length):cut' l (some a) none=l.drop a.toNat:=by
 simp [cut']
theorem zOa (b:List Int) (at0:Int) (hb:b.length≤4611686018427387904) (hu:U8s b) (hat:at0≤9223372036854775807):zHz b at0=some (getP b at0):=by
 rw [zHz,getP]
 by_cases h0:at0<0
 ·rw [if_pos h0,if_pos h0]
 rw [if_neg h0,if_neg h0]
 have hmin:(if (b.length:Int)<at0 then (b.length:Int) else at0).toNat=min at0.toNat b.length:=by
  split<;>omega
 have hd:cut' b (some (if (b.length:Int)<at0 then (b.length:Int) else at0)) none=b.drop at0.toNat:=by
  rw [zAbE _ _ (by split<;>omega),hmin]
  rcases Nat.le_total at0.toNat b.length with h | h
  ·rw [Nat.min_eq_left h]
  ·rw [Nat.min_eq_right h,List.drop_eq_nil_of_le (Nat.le_refl _),List.drop_eq_nil_of_le h]
 rw [if_pos (by simp only [cutOk,Option.getD_some,Option.getD_none];split<;>omega),hd,zAb]
 have hl:=zYD at0 (b.drop at0.toNat) (by omega) (by
  rcases Nat.lt_or_ge at0.toNat b.length with h | h
  ·left;simp only [List.length_drop];omega
  ·right;exact List.drop_eq_nil_of_le h) (fun x hx=>hu x (List.mem_of_mem_drop hx)) (b.drop at0.toNat) 0 0 (by omega) rfl
 rw [show ((0:Nat):Int)=0 from rfl] at hl
 rw [hl]
 by_cases hc:zCC at0 (b.drop at0.toNat) 0 0=(0,0,5)∧∀x∈b.drop at0.toNat,128≤x
 ·rw [if_pos hc,hc.1];rfl
 ·rw [if_neg hc];rfl
theorem zZN (at0:Int):∀(c:List Int) (k:Nat) (n:Int),(zCC at0 c k n).2.2=0∨zCC at0 c k n=(0,0,5)∨zCC at0 c k n=(0,0,6)
 | [],k,n=>by simp [zCC]
 | x::c,k,n=>by
  rw [zCC]
  split
  ·simp
  ·split
   ·simp
   ·exact zZN at0 c _ _
theorem zV3 (at0:Int) (h0:0≤at0) (B:Int) (hB:B≤9223372036854775806) (hB0:0≤B):∀(c:List Int) (k:Nat) (n:Int),at0+k+c.length≤B∨c=[]→0≤(zCC at0 c k n).2.1∧(zCC at0 c k n).2.1≤B
 | [],k,n,_=>by simp [zCC,hB0]
 | x::c,k,n,h=>by
  simp only [List.length_cons,reduceCtorEq,or_false] at h
  rw [zCC]
  split
  ·simp [hB0]
  ·split
   ·simp only
    rw [i64_in _ (by omega)];omega
   ·exact zV3 at0 h0 B hB hB0 c (k+1) _ (.inl (by omega))
theorem zXT (b:List Int) (at0:Int) (hb:b.length≤4611686018427387904):0≤(getP b at0).2.1∧(getP b at0).2.1≤b.length:=by
 unfold getP
 split
 ·simp
 ·rename_i h
  refine zV3 at0 (by omega) b.length (by omega) (by omega) _ 0 0 ?_
  rcases Nat.lt_or_ge at0.toNat b.length with h1 | h1
  ·left;simp only [List.length_drop];omega
  ·right;exact List.drop_eq_nil_of_le h1
theorem zTS (at0:Int):∀(c:List Int) (k:Nat) (n:Int),0≤(zCC at0 c k n).1∧(zCC at0 c k n).1≤18446744073709551615
 | [],k,n=>by simp [zCC]
 | x::c,k,n=>by
  rw [zCC]
  split
  ·simp
  ·split
   ·exact zSj _
   ·exact zTS at0 c (k+1) _
theorem zWs (b:List Int) (at0:Int):0≤(getP b at0).1∧(getP b at0).1≤18446744073709551615:=by
 unfold getP
 split
 ·simp
 ·exact zTS _ _ _ _
def iget (dim:Int) (b:List Int):Nat→Int→Int→List Int→List Int×Int×Int
 | 0,at0,_,acc=>(acc,at0,0)
 | m+1,at0,last,acc=>
  if (getP b at0).2.2≠0 then ([],0,(getP b at0).2.2)
  else if dim-1-last≤(getP b at0).1 then ([],0,6)
  else iget dim b m (getP b at0).2.1 (last+1+(getP b at0).1) (acc++[last+1+(getP b at0).1])
def zVd (dim:Int) (b:List Int) (at0:Int):List Int×Int×Int:=
 if meas dim=false then ([],0,1)
 else if (getP b at0).2.2≠0 then ([],0,(getP b at0).2.2)
 else if dim<(getP b at0).1 then ([],0,6)
 else iget dim b (getP b at0).1.toNat (getP b at0).2.1 (-1) []
theorem zAcy (dim:Int) (hd:dim≤4096) (b:List Int) (hb:b.length≤4611686018427387904) (hu:U8s b) (r2:Int×Int×Int) (hr:r2.1≤4096):∀(j i:Nat) (last:Int) (acc:List Int) (at0:Int),(i:Int)+j=r2.1→acc.length≤i→at0≤9223372036854775807→-1≤last→last<dim→
  ∃p q,zCj dim b r2 (i:Int) last acc 0 at0=some ((iget dim b j at0 last acc).2.2,p,q)∧((iget dim b j at0 last acc).2.2=0→p=(iget dim b j at0 last acc).2.1∧q=(iget dim b j at0 last acc).1)∧((iget dim b j at0 last acc).2.2≠0→iget dim b j at0 last acc=([],0,(iget dim b j at0 last acc).2.2)):=by
 intro j
 induction j with
 | zero=>
  intro i last acc at0 hi ha hat hl1 hl2
  rw [zCj,andB,if_neg (by simp;omega)]
  exact ⟨at0,acc,rfl,fun _=>⟨rfl,rfl⟩,fun h=>absurd rfl h⟩
 | succ j ih=>
  intro i last acc at0 hi ha hat hl1 hl2
  rw [zCj,andB,if_pos (by simp;omega),zOa b at0 hb hu hat,zAb]
  by_cases he:(getP b at0).2.2≠0
  ·rw [if_pos he]
   simp only [iget,if_pos he]
   exact ⟨_,_,rfl,fun h=>absurd h he,fun _=>trivial⟩
  ·have e1:IntKind.u64.wrap (IntKind.i64.wrap (IntKind.i64.wrap (dim-1)-last))=dim-1-last:=by
    rw [i64_in (dim-1) (by omega),i64_in _ (by omega),u64_in _ (by omega)]
   rw [if_neg he,e1]
   have h1:=zWs b at0
   have h2:=zXT b at0 hb
   by_cases hf:dim-1-last≤(getP b at0).1
   ·rw [if_pos hf]
    simp only [iget,if_neg he,if_pos hf]
    exact ⟨_,_,rfl,fun h=>absurd h (by decide),fun _=>trivial⟩
   ·have e2:IntKind.i64.wrap (last+IntKind.i64.wrap (1+IntKind.i64.wrap (getP b at0).1))=last+1+(getP b at0).1:=by
     rw [i64_in (getP b at0).1 (by omega),i64_in (1+(getP b at0).1) (by omega),i64_in _ (by omega)];omega
    rw [if_neg hf,e2,zAb,if_pos (zJv (by simp;omega)),zAb,zAd0 (by omega)]
    simp only [iget,if_neg he,if_neg hf]
    have he':(getP b at0).2.2=0:=by simpa using he
    rw [he']
    exact ih (i+1) _ _ _ (by omega) (by simp;omega) (by omega) (by omega) (by omega)
theorem zAcD (dim:Int) (b:List Int) (at0:Int) (hb:b.length≤4611686018427387904) (hu:U8s b) (hat:at0≤9223372036854775807):zJF dim b at0=some (zVd dim b at0):=by
 rw [zJF,zSC,zAb,zVd]
 cases hm:meas dim with
 | false=>rfl
 | true=>
  have hm':=hm
  simp only [meas,Bool.and_eq_true,decide_eq_true_eq] at hm'
  rw [if_neg (by simp),if_neg (by simp),zOa b at0 hb hu hat,zAb,andB,u64_in dim (by omega)]
  have h1:=zWs b at0
  have h2:=zXT b at0 hb
  by_cases he:(getP b at0).2.2≠0
  ·rw [if_neg (by simp [he]),zAb,if_pos he,zCj,andB,if_neg (by simp [he]),zAb,if_pos he]
  ·have he':(getP b at0).2.2=0:=by simpa using he
   rw [if_neg he,he']
   by_cases hf:dim<(getP b at0).1
   ·rw [if_pos (by simp;omega),zAb,if_pos hf,zCj,andB,if_neg (by simp),zAb,if_pos (by simp)]
   ·rw [if_neg (by simp;omega),zAb,if_neg hf]
    obtain ⟨p,q,g1,g2,g3⟩:=zAcy dim hm'.2 b hb hu (getP b at0) (by omega) (getP b at0).1.toNat 0 (-1) [] (getP b at0).2.1 (by omega) (by simp) (by omega) (by omega) (by omega)
    rw [show ((0:Nat):Int)=0 from rfl] at g1
    rw [g1,zAb]
    by_cases hz:(iget dim b (getP b at0).1.toNat (getP b at0).2.1 (-1) []).2.2=0
    ·rw [if_neg (by simpa using hz)]
     obtain ⟨rfl,rfl⟩:=g2 hz
     generalize iget dim b (getP b at0).1.toNat (getP b at0).2.1 (-1) []=R at hz
     obtain ⟨x,y,z⟩:=R
     simp only at hz;subst hz;rfl
    ·rw [if_pos hz]
     exact congrArg some (g3 hz).symm
theorem zNO {n:Int} (h:¬127<n):lebP n=[IntKind.u8.wrap n]:=by rw [lebP,if_neg h]
theorem zPL:∀(k:Nat) (n:Int),n.toNat≤k→U8s (lebP n):=by
 intro k
 induction k with
 | zero=>
  intro n h x hx
  rw [zNO (by omega),List.mem_singleton] at hx;subst hx
  exact zVf _
 | succ k ih=>
  intro n h x hx
  rw [lebP] at hx
  split at hx
  ·rcases List.mem_cons.1 hx with rfl | hx
   ·exact zVf _
   ·exact ih _ (by rw [shr7];omega) x hx
  ·simp only [List.mem_singleton] at hx;subst hx
   exact zVf _
theorem zAcN (dim:Int) (l:List Int):U8s (putB dim l):=by
 unfold putB
 split
 ·intro x hx
  obtain ⟨n,_,hn⟩:=List.mem_flatMap.1 hx
  exact zPL _ n (Nat.le_refl _) x hn
 ·intro x hx;simp at hx
theorem zXJ {x y:Int} (hx:0≤x∧x≤18446744073709551615) (hy:0≤y∧y≤18446744073709551615):bOr .u64 x y=((x.toNat ||| y.toNat:Nat):Int):=by
 unfold bOr
 have e:IntKind.u64.bits=64:=rfl
 rw [e,BitVec.toNat_or,BitVec.toNat_ofInt,BitVec.toNat_ofInt]
 have e1:(x % ((2 ^ 64:Nat):Int)).toNat=x.toNat:=by omega
 have e2:(y % ((2 ^ 64:Nat):Int)).toNat=y.toNat:=by omega
 rw [e1,e2,u64_in _ ?_]
 have:= @Nat.or_lt_two_pow x.toNat y.toNat 64 (by omega) (by omega)
 omega
theorem zYT {a x:Int} {k:Nat} (hk:k≤9) (ha:0≤a) (ha1:a<128 ^ k) (hx:0≤x) (hx1:x<128) (h:x*128 ^ k<18446744073709551616):bOr .u64 a (sShl .u64 x (7*(k:Int)))=a+x*128 ^ k:=by
 have e7:(128:Int) ^ k=2 ^ (7*k):=by rw [Int.pow_mul];rfl
 have hm:min (7*(k:Int)).toNat IntKind.u64.bits=7*k:=by
  have:IntKind.u64.bits=64:=rfl
  rw [this];omega
 have hp:(0:Int)<2 ^ (7*k):=Int.pow_pos (by decide)
 rw [e7] at ha1 h⊢
 have hpos:0≤x*2 ^ (7*k):=Int.mul_nonneg hx (by omega)
 have h63:(2:Int) ^ (7*k)≤2 ^ 63:=by
  have:(2:Nat) ^ (7*k)≤2 ^ 63:=Nat.pow_le_pow_right (by decide) (by omega)
  exact_mod_cast this
 have es:sShl .u64 x (7*(k:Int))=x*2 ^ (7*k):=by
  unfold sShl
  rw [hm,u64_in _ (by omega)]
 rw [es,zXJ (by omega) (by omega)]
 have e1:(x*2 ^ (7*k)).toNat=2 ^ (7*k)*x.toNat:=by
  have:x*2 ^ (7*k)=((2 ^ (7*k)*x.toNat:Nat):Int):=by
   push_cast
   rw [Int.toNat_of_nonneg hx,Int.mul_comm]
  rw [this,Int.toNat_natCast]
 have e2:a.toNat<2 ^ (7*k):=by
  have:((2 ^ (7*k):Nat):Int)=2 ^ (7*k):=by push_cast;rfl
  omega
 rw [e1,Nat.or_comm,←Nat.two_pow_add_eq_or_of_lt e2]
 push_cast
 rw [Int.toNat_of_nonneg hx,Int.toNat_of_nonneg ha,Int.mul_comm x]
 omega
theorem zYU {n:Int} (h0:0≤n):bOr .u8 (IntKind.u8.wrap n) 128=n % 128+128:=by
 rw [IntKind.wrap_u8 n]
 have h:∀i:Fin 256,bOr .u8 ((i.val:Nat):Int) 128=((i.val:Nat):Int) % 128+128:=by decide+kernel
 have:=h ⟨(n % 256).toNat,by omega⟩
 simp only [Int.toNat_of_nonneg (show 0≤n % 256 by omega)] at this
 rw [this];omega
theorem zAca {k:Nat} (hk:k≤9):(128:Int) ^ k≤9223372036854775808:=by
 have:∀j:Fin 10,(128:Int) ^ (j.val)≤9223372036854775808:=by decide+kernel
 exact this ⟨k,by omega⟩
theorem zAaM (at0:Int) (B:List Int):∀(m:Nat) (n:Int) (k:Nat) (acc:Int),n.toNat≤m→k≤9→0≤n→0≤acc→acc<128 ^ k→n*128 ^ k<18446744073709551616→(1≤n∨k=0)→
  0≤at0→at0+k+(lebP n).length≤9223372036854775807→zCC at0 (lebP n++B) k acc=(acc+n*128 ^ k,at0+k+(lebP n).length,0):=by
 intro m
 induction m with
 | zero=>
  intro n k acc hn hk h0 ha ha1 hlt hor hat hl
  have:n=0:=by omega
  subst this
  have hk0:k=0:=by omega
  subst hk0
  rw [zNO (by omega)] at hl⊢
  have e:IntKind.u8.wrap 0=0:=rfl
  simp only [e,List.cons_append,List.nil_append,zCC]
  rw [if_neg (by omega),if_pos (by omega)]
  have:=zYT (k:=0) (x:=0) (by omega) ha ha1 (by omega) (by omega) (by omega)
  simp only [List.length_cons,List.length_nil] at hl
  rw [show (0:Int) % 128=0 by decide,this,i64_in _ (by omega)]
  simp only [List.length_cons,List.length_nil]
  congr 1
 | succ m ih=>
  intro n k acc hn hk h0 ha ha1 hlt hor hat hl
  have hp9:=zAca hk
  have hpp:(1:Int)≤128 ^ k:=by have:(0:Int)<128 ^ k:=Int.pow_pos (by decide);omega
  by_cases h:127<n
  ·have hk8:k≤8:=by
    rcases Nat.lt_or_ge k 9 with h9 | h9
    ·omega
    ·have:k=9:=by omega
     subst this
     omega
   have e128:(128:Int) ^ (k+1)=128 ^ k*128:=Int.pow_succ _ _
   have hq:0≤n % 128∧n % 128<128:=by omega
   have hd:n=128*(n/128)+n % 128:=by omega
   have hmul:n*128 ^ k=n/128*(128 ^ k*128)+n % 128*128 ^ k:=by
    conv=>lhs;rw [hd]
    rw [Int.add_mul,Int.mul_comm 128 (n/128),Int.mul_assoc,Int.mul_comm 128 (128 ^ k)]
   have hz1:0≤n/128*(128 ^ k*128):=Int.mul_nonneg (by omega) (by omega)
   have hz2:0≤n % 128*128 ^ k:=Int.mul_nonneg (by omega) (by omega)
   have hz3:n % 128*128 ^ k≤127*128 ^ k:=Int.mul_le_mul_of_nonneg_right (by omega) (by omega)
   rw [lebP,if_pos h,shr7] at hl⊢
   simp only [List.cons_append,List.length_cons] at hl⊢
   rw [zCC,zYU h0,if_neg (by omega),if_neg (by omega),show (n % 128+128) % 128=n % 128 by omega,zYT hk ha ha1 hq.1 hq.2 (by omega)]
   rw [ih (n/128) (k+1) _ (by omega) (by omega) (by omega) (by omega) (by rw [e128];omega) (by rw [e128];omega) (.inl (by omega)) hat (by push_cast;omega)]
   refine Prod.ext ?_ (Prod.ext ?_ rfl)
   ·simp only;rw [e128];omega
   ·simp only;push_cast;omega
  ·have e:IntKind.u8.wrap n=n:=u8_in _ (by omega)
   rw [zNO h] at hl⊢
   simp only [e,List.cons_append,List.nil_append,zCC]
   have hz:¬(k=9∧1<n):=by
    rintro ⟨rfl,h1⟩
    omega
   rw [if_neg (by omega),if_pos (by omega),show n % 128=n by omega,zYT hk ha ha1 h0 (by omega) hlt]
   simp only [List.length_cons,List.length_nil] at hl⊢
   rw [i64_in _ (by omega)]
   refine Prod.ext rfl (Prod.ext ?_ rfl)
   simp only;omega
theorem zQW (A B:List Int) (n:Int) (hn:0≤n∧n≤18446744073709551615) (hA:A.length≤4611686018427387904):getP (A++(lebP n++B)) A.length=(n,(A.length:Int)+(lebP n).length,0):=by
 have h1:=zDe n hn.2
 rw [getP,if_neg (by omega),Int.toNat_natCast,List.drop_left,zAaM A.length B n.toNat n 0 0 (Nat.le_refl _) (by omega) hn.1 (by omega) (by simp) (by simp;omega) (.inr rfl) (by omega) (by push_cast;omega)]
 refine Prod.ext ?_ (Prod.ext ?_ rfl)
 ·simp
 ·simp
def zHW (last:Int) (t:List Int):List Int:=(gaps last t).flatMap lebP
theorem zG9 {x:Int} {t:List Int} (h:zBt (x::t)=true):zBt t=true:=by
 cases t with
 | nil=>rfl
 | cons y t=>simp only [zBt,Bool.and_eq_true] at h⊢;exact h.2
theorem zHe {x:Int} {t:List Int} (h:zBt (x::t)=true):∀y∈t,x<y:=by
 induction t generalizing x with
 | nil=>simp
 | cons y t ih=>
  intro z hz
  simp only [zBt,Bool.and_eq_true,decide_eq_true_eq] at h
  have h2:zBt (y::t)=true:=by simp only [zBt,Bool.and_eq_true];exact h.2
  rcases List.mem_cons.1 hz with rfl | hz
  ·exact h.1
  ·have:=ih h2 z hz;omega
theorem zZF {x:Int} {t:List Int} (h:zBt t=true) (hx:∀y∈t,x<y):zBt (x::t)=true:=by
 cases t with
 | nil=>rfl
 | cons y t=>
  have h1:=hx y (by simp)
  simp only [zBt,Bool.and_eq_true] at h⊢
  exact ⟨by simpa using h1,h⟩
theorem zVP (dim:Int) (hd:dim≤4096) (B:List Int):∀(t:List Int) (A:List Int) (last:Int) (acc:List Int),zBt t=true→(∀n∈t,last<n∧n<dim)→-1≤last→A.length+(zHW last t).length≤4611686018427387904→
  iget dim (A++(zHW last t++B)) t.length A.length last acc=(acc++t,((A.length+(zHW last t).length:Nat):Int),0)
 | [],A,last,acc,hr,hn,hl,hA=>by simp [iget,zHW,gaps]
 | x::t,A,last,acc,hr,hn,hl,hA=>by
  have hx:=hn x (by simp)
  have e:IntKind.u64.wrap (IntKind.i64.wrap (IntKind.i64.wrap (x-last)-1))=x-last-1:=by
   rw [i64_in (x-last) (by omega),i64_in _ (by omega),u64_in _ (by omega)]
  have ec:zHW last (x::t)=lebP (x-last-1)++zHW x t:=by simp [zHW,gaps,e]
  rw [ec] at hA⊢
  simp only [List.length_append] at hA
  have hg:=zQW A (zHW x t++B) (x-last-1) (by omega) (by omega)
  rw [List.append_assoc,List.length_cons,iget,hg]
  simp only
  rw [if_neg (by simp),if_neg (by omega),show last+1+(x-last-1)=x by omega]
  have ih:=zVP dim hd B t (A++lebP (x-last-1)) x (acc++[x]) (zG9 hr) (fun n hm=>⟨zHe hr n hm,(hn n (by simp [hm])).2⟩) (by omega) (by simp only [List.length_append];omega)
  simp only [List.append_assoc,List.length_append] at ih
  rw [show ((A.length:Int)+((lebP (x-last-1)).length:Nat))=(((A.length+(lebP (x-last-1)).length:Nat)):Int) by push_cast;rfl,ih]
  simp only [List.length_append,List.cons_append,List.nil_append]
  refine Prod.ext rfl (Prod.ext ?_ rfl)
  simp only;push_cast;omega
theorem zH8 {dim:Int} {l:List Int}:zC6 dim l=0↔meas dim=true∧zBt l=true∧∀n∈l,0≤n∧n<dim:=by
 unfold zC6 zJY
 by_cases h:(meas dim&&zBt l&&l.all fun n=>decide (0≤n)&&decide (n<dim))=true
 ·rw [if_pos h]
  simp only [Bool.and_eq_true,zPD] at h
  exact ⟨fun _=>⟨h.1.1,h.1.2,h.2⟩,fun _=>rfl⟩
 ·rw [if_neg h]
  simp only [Bool.and_eq_true,zPD] at h
  exact ⟨fun h'=>by omega,fun h'=>absurd ⟨⟨h'.1,h'.2.1⟩,h'.2.2⟩ h⟩
theorem zH7 {lo hi:Int}:∀{l:List Int},zBt l=true→(∀n∈l,lo≤n∧n<hi)→(l.length:Int)≤hi-lo∨l=[]
 | [],_,_=> .inr rfl
 | x::t,hr,h=>by
  left
  have hx:=h x (by simp)
  rcases zH7 (lo:=x+1) (hi:=hi) (zG9 hr) (fun n hn=>⟨by have:=zHe hr n hn;omega,(h n (by simp [hn])).2⟩) with h1 | rfl
  ·simp only [List.length_cons];push_cast;omega
  ·simp only [List.length_cons,List.length_nil];omega
theorem zYG {dim:Int} {l:List Int} (h:zC6 dim l=0) (hl:l.length≤1099511627776):putB dim l=lebP l.length++zHW (-1) l:=by
 rw [putB,if_pos h,u64_in _ (by omega)];rfl
theorem zAc2 (dim:Int) (l A B:List Int) (h:zC6 dim l=0) (hA:A.length≤1099511627776):zVd dim (A++(putB dim l++B)) A.length=(l,((A.length+(putB dim l).length:Nat):Int),0):=by
 have h':=h
 rw [zH8] at h
 obtain ⟨hm,hr,hp⟩:=h
 have hm':=hm
 simp only [meas,Bool.and_eq_true,decide_eq_true_eq] at hm'
 have hlen:(l.length:Int)≤dim:=by
  rcases zH7 hr hp with h | rfl
  ·omega
  ·simp;omega
 have h1:=zDe (l.length:Int) (by omega)
 have h2:=zIh (gaps (-1) l) (fun n hn=>(zN7 _ _ n hn).2)
 rw [zG8] at h2
 rw [zYG h' (by omega),List.append_assoc,zVd,if_neg (by simp [hm])]
 have hg:=zQW A (zHW (-1) l++B) l.length (by omega) (by omega)
 rw [hg]
 simp only
 rw [if_neg (by simp),if_neg (by omega),Int.toNat_natCast]
 have:=zVP dim hm'.2 B l (A++lebP l.length) (-1) [] hr (fun n hn=>⟨by have:=hp n hn;omega,(hp n hn).2⟩) (by omega) (by simp only [List.length_append,zHW];omega)
 simp only [List.append_assoc,List.length_append,List.nil_append] at this
 rw [show ((A.length:Int)+((lebP (l.length:Int)).length:Nat))=(((A.length+(lebP (l.length:Int)).length:Nat)):Int) by push_cast;rfl,this]
 simp only [List.length_append]
 refine Prod.ext rfl (Prod.ext ?_ rfl)
 simp only;push_cast;omega
theorem zGg {a b:List Int} (ha:U8s a) (hb:U8s b):U8s (a++b):=by
 intro x hx
 rcases List.mem_append.1 hx with h | h
 ·exact ha x h
 ·exact hb x h
theorem zQY (dim:Int) (l:List Int) (hl:l.length≤1099511627776):(putB dim l).length≤10*l.length+10:=by
 unfold putB
 split
 ·have h2:=zIh (IntKind.u64.wrap l.length::gaps (-1) l) (by
   intro n hn
   rcases List.mem_cons.1 hn with rfl | hn
   ·exact (zSj _).2
   ·exact (zN7 _ _ n hn).2)
  simp only [List.length_cons,zG8] at h2
  omega
 ·simp
end Go.Proofs.YtdgdgfckcnjpfaaGreat.Abs
