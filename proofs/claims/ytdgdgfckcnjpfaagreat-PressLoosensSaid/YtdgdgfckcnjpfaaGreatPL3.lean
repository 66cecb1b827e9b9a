/- Plain facts: codes, lists that rise. Conditions: none. -/
import Derived.Test.YtdgdgfckcnjpfaaGreatPB
import Derived.Test.YtdgdgfckcnjpfaaGreatZM
namespace Go.Proofs.YtdgdgfckcnjpfaaGreat.Abs
open Go Go.RowKit Go.IntWalk
set_option linter.unusedVariables false
set_option linter.unusedSimpArgs false
set_option linter.unusedSectionVars false
set_option linter.unnecessarySimpa false
set_option maxRecDepth 100000
def zAD:List Int→Bool
 | []=>true
 | x::t=>(match t with
  | []=>true
  | y::_=>decide (x<y))&&zAD t
theorem zXV (l:List Int) (hl:l.length≤4611686018427387904):∀(t:List Int) (x:Int) (k:Nat),l.drop k=x::t→zCl l ((k+1:Nat):Int)=some (if zAD (x::t) then .inr () else .inl false)
 | [],x,k,h=>by
  have h1:=zAh h
  rw [zCl,if_neg (zAp h1.2.2)]
  simp [zAD]
 | y::t,x,k,h=>by
  have h1:=zAh h
  have h2:=zAh h1.2.2
  have e1:IntKind.i64.wrap (((k+1:Nat):Int)-1)=(k:Int):=by rw [i64_in _ (by omega)];omega
  rw [zCl,if_pos h2.1,e1,if_pos (by omega),if_pos (by omega),h1.2.1,h2.2.1,zAx (by omega),zXV l hl t y (k+1) h1.2.2]
  by_cases hxy:x<y
  ·rw [if_neg (by omega)];simp [zAD,hxy]
  ·rw [if_pos (by omega)];simp [zAD,hxy]
theorem zYq (l:List Int) (hl:l.length≤4611686018427387904):zEM l=some (zAD l):=by
 cases l with
 | nil=>rw [zEM,zCl];simp [zAD]
 | cons x t=>
  have:=zXV (x::t) hl t x 0 rfl
  rw [zEM,show (1:Int)=((0+1:Nat):Int) from rfl,this]
  cases zAD (x::t)<;>rfl
def meas (dim:Int):Bool:=decide (0<dim)&&decide (dim≤4096)
def zGv (dim:Int) (l:List Int):Bool:=meas dim&&zAD l&&l.all fun n=>decide (0≤n)&&decide (n<dim)
def zCh (dim:Int) (l:List Int):Int:=if zGv dim l then 0 else 1
theorem zTM {lo hi:Int}:∀{l:List Int},zAD l=true→(∀x,l.head? =some x→lo≤x)→(∀x,l.getLast? =some x→x<hi)→∀n∈l,lo≤n∧n<hi
 | [],_,_,_,n,h=>by simp at h
 | [x],_,h1,h2,n,h=>by
  simp only [List.mem_singleton] at h;subst h
  exact ⟨h1 _ rfl,h2 _ rfl⟩
 | x::y::t,hr,h1,h2,n,h=>by
  simp only [zAD,Bool.and_eq_true,decide_eq_true_eq] at hr
  have hx:=h1 x rfl
  have ih:=zTM (lo:=lo) (hi:=hi) (l:=y::t) (by simpa only [zAD,Bool.and_eq_true] using hr.2) (fun z hz=>by
   simp only [List.head?_cons,Option.some.injEq] at hz;subst hz;omega) (fun z hz=>h2 z (by rw [List.getLast?_cons_cons];exact hz))
  rcases List.mem_cons.1 h with rfl | h
  ·exact ⟨hx,by have:=(ih y (by simp)).2;omega⟩
  ·exact ih n h
theorem zRl {dim:Int} {l:List Int}:(l.all fun n=>decide (0≤n)&&decide (n<dim))=true↔∀n∈l,0≤n∧n<dim:=by
 simp [List.all_eq_true]
theorem zAaR (dim:Int):zGR dim=some (meas dim):=by
 rw [zGR,andB]
 simp [meas]
theorem zTn (dim:Int) (l:List Int) (hl:l.length≤4611686018427387904):zEJ dim l=some (zCh dim l):=by
 rw [zEJ,zAaR,zAb,zYq l hl,zAb,orB]
 cases hm:meas dim with
 | false=>simp [zCh,zGv,hm]
 | true=>
  cases hr:zAD l with
  | false=>simp [zCh,zGv,hr]
  | true=>
   rw [if_neg (by simp)]
   cases l with
   | nil=>simp [zCh,zGv,hm,hr]
   | cons x t=>
    have e1:IntKind.i64.wrap ((((x::t).length:Nat):Int)-1)=((t.length:Nat):Int):=by rw [i64_in _ (by simp at hl⊢;omega)];simp
    have e2:at' (x::t) ((t.length:Nat):Int)=(x::t).getLast (by simp):=by
     rw [zV0,List.getLast_eq_getElem];simp
    rw [if_pos (by simp<;>omega),if_pos (by simp<;>omega),zAc7]
    by_cases h0:x<0
    ·rw [if_pos h0,zCh,if_neg]
     intro hp
     simp only [zGv,Bool.and_eq_true,zRl] at hp
     have:=(hp.2 x (by simp)).1
     omega
    ·rw [if_neg h0,e1,if_pos (by simp<;>omega),e2]
     by_cases h1:(x::t).getLast (by simp)≥dim
     ·rw [if_pos h1,zCh,if_neg]
      intro hp
      simp only [zGv,Bool.and_eq_true,zRl] at hp
      have:=(hp.2 _ (List.getLast_mem (by simp:x::t≠[]))).2
      omega
     ·rw [if_neg h1,zCh,if_pos]
      simp only [zGv,hm,hr,Bool.and_eq_true,zRl,true_and]
      exact zTM hr (fun z hz=>by simp only [List.head?_cons,Option.some.injEq] at hz;omega) (fun z hz=>by
       rw [List.getLast?_eq_some_getLast (by simp),Option.some.injEq] at hz;omega)
def lebP (n:Int):List Int:=if 127<n then bOr .u8 (IntKind.u8.wrap n) 128::lebP (sShr .u64 n 7) else [IntKind.u8.wrap n]
 termination_by n.toNat
 decreasing_by
 simp only [sShr]
 have:min (7:Int).toNat IntKind.u64.bits=7:=by decide
 rw [this,Int.fdiv_eq_ediv_of_nonneg _ (by decide)]
 omega
theorem shr7 (n:Int):sShr .u64 n 7=n/128:=by
 simp only [sShr]
 have:min (7:Int).toNat IntKind.u64.bits=7:=by decide
 rw [this,Int.fdiv_eq_ediv_of_nonneg _ (by decide)];rfl
theorem zFV (n:Int) (h:n≤18446744073709551615):(lebP n).length≤10:=by
 suffices ∀(k:Nat) (n:Int),n<128 ^ (k+1)→(lebP n).length≤k+1 from this 9 n (by omega)
 intro k
 induction k with
 | zero=>intro n h;rw [lebP,if_neg (by omega)];simp
 | succ k ih=>
  intro n h
  rw [lebP]
  split
  ·have:=ih (sShr .u64 n 7) (by
    rw [shr7]
    have e:(128:Int) ^ (k+1+1)=128*128 ^ (k+1):=by rw [Int.pow_succ,Int.mul_comm]
    rw [e] at h
    omega)
   simpa using this
  ·simp
theorem zAav (b:List Int) (n:Int) (hb:b.length+(lebP n).length≤140737488355328):∃c m,zDG b n=some (c,m)∧c++[IntKind.u8.wrap m]=b++lebP n:=by
 suffices ∀(k:Nat) (b:List Int) (n:Int),n.toNat≤k→b.length+(lebP n).length≤140737488355328→∃c m,zDG b n=some (c,m)∧c++[IntKind.u8.wrap m]=b++lebP n from this _ b n (Nat.le_refl _) hb
 clear hb n b
 intro k
 induction k with
 | zero=>
  intro b n hn hb
  rw [zDG,if_neg (by omega),lebP,if_neg (by omega)]
  exact ⟨b,n,rfl,rfl⟩
 | succ k ih=>
  intro b n hn hb
  rw [zDG]
  by_cases h:127<n
  ·rw [lebP,if_pos h] at hb
   simp only [List.length_cons] at hb
   rw [if_pos h,if_pos (zEx (by simp;omega))]
   obtain ⟨c,m,h1,h2⟩:=ih (b++[bOr .u8 (IntKind.u8.wrap n) 128]) (sShr .u64 n 7) (by rw [shr7];omega) (by simp;omega)
   refine ⟨c,m,h1, ?_⟩
   rw [h2]
   conv=>rhs;rw [lebP,if_pos h]
   simp
  ·rw [if_neg h,lebP,if_neg h]
   exact ⟨b,n,rfl,rfl⟩
theorem zUy (b:List Int) (n:Int) (hb:b.length+(lebP n).length≤140737488355328):zKh b n=some (b++lebP n):=by
 obtain ⟨c,m,h1,h2⟩:=zAav b n hb
 have:=congrArg List.length h2
 simp only [List.length_append] at this
 rw [zKh,h1,zAb,if_pos (zEx (by simp only [List.length_append] at this⊢;omega)),h2]
theorem zYc (b:List Int) (hb:b.length≤140737488355328):zCi b=some b:=by
 rw [zCi]
 simp only [List.nil_append]
 rw [if_pos (zEx hb)]
theorem zTH (ns:List Int) (hn:ns.length≤4611686018427387904):∀(t:List Int) (k:Nat) (b:List Int),ns.drop k=t→b.length+(t.flatMap lebP).length≤140737488355328→zEu ns (k:Int) b=some (b++t.flatMap lebP)
 | [],k,b,h,hb=>by
  rw [zEu,if_neg (zAp h)];simp
 | x::t,k,b,h,hb=>by
  have h1:=zAh h
  simp only [List.flatMap_cons,List.length_append] at hb
  rw [zEu,if_pos h1.1,if_pos (by omega),h1.2.1,zUy b x (by omega),zAb,zAx (by omega),zTH ns hn t (k+1) _ h1.2.2 (by simp only [List.length_append];omega)]
  simp
theorem zK3 (b ns:List Int) (hn:ns.length≤4611686018427387904) (hb:b.length+(ns.flatMap lebP).length≤140737488355328):zFX b ns=some (b++ns.flatMap lebP):=by
 have h1:=zTH ns hn ns 0 b rfl hb
 rw [show ((0:Nat):Int)=0 from rfl] at h1
 rw [zFX,zYc b (by omega),zAb,h1,zAb]
def gaps (last:Int):List Int→List Int
 | []=>[]
 | n::r=>IntKind.u64.wrap (IntKind.i64.wrap (IntKind.i64.wrap (n-last)-1))::gaps n r
theorem zJT:∀(last:Int) (l:List Int),(gaps last l).length=l.length
 | _,[]=>rfl
 | last,n::r=>by simp [gaps,zJT n r]
theorem zLI:∀(l:List Int),(∀n∈l,n≤18446744073709551615)→(l.flatMap lebP).length≤10*l.length
 | [],_=>by simp
 | n::l,h=>by
  have h1:=zFV n (h n (by simp))
  have h2:=zLI l fun m hm=>h m (by simp [hm])
  simp only [List.flatMap_cons,List.length_append,List.length_cons]
  omega
theorem zTo:∀(last:Int) (l:List Int),∀n∈gaps last l,0≤n∧n≤18446744073709551615
 | _,[],n,h=>by simp [gaps] at h
 | last,m::r,n,h=>by
  simp only [gaps,List.mem_cons] at h
  rcases h with rfl | h
  ·exact zL8 _
  ·exact zTo m r n h
def putB (dim:Int) (l:List Int):List Int:=if zCh dim l=0 then (IntKind.u64.wrap l.length::gaps (-1) l).flatMap lebP else []
theorem zAb1 (l:List Int) (hl:l.length≤1099511627776):∀(t:List Int) (k:Nat) (last:Int) (b:List Int),l.drop k=t→b.length+t.length≤1099511627777→zDo l (k:Int) last b=some (b++gaps last t)
 | [],k,last,b,h,hb=>by
  rw [zDo,if_neg (zAp h)];simp [gaps]
 | x::t,k,last,b,h,hb=>by
  have h1:=zAh h
  simp only [List.length_cons] at hb
  rw [zDo,if_pos h1.1,if_pos (by omega),if_pos (zEy (by simp;omega)),zAb,zAx (by omega),h1.2.1,zAb1 l hl t (k+1) x _ h1.2.2 (by simp;omega)]
  simp [gaps]
theorem zAep (dim:Int) (l:List Int) (hl:l.length≤1099511627776):zJH dim l=some (putB dim l,zCh dim l):=by
 rw [zJH,zTn dim l (by omega),zAb]
 by_cases h:zCh dim l=0
 ·have e1:IntKind.i64.wrap ((l.length:Int)+1)=l.length+1:=i64_in _ (by omega)
  have h1:=zAb1 l hl l 0 (-1) [IntKind.u64.wrap (l.length:Int)] rfl (by simp;omega)
  rw [show ((0:Nat):Int)=0 from rfl] at h1
  rw [if_neg (by simp [h]),e1,if_pos (by omega),zAb]
  simp only [Int.toNat_zero,List.replicate_zero,List.nil_append]
  rw [if_pos (zEy (by simp)),zAb,h1,zAb]
  have h2:=zLI (IntKind.u64.wrap l.length::gaps (-1) l) (by
   intro n hn
   rcases List.mem_cons.1 hn with rfl | hn
   ·exact (zL8 _).2
   ·exact (zTo _ _ n hn).2)
  simp only [List.length_cons,zJT] at h2
  rw [List.cons_append,List.nil_append,zK3 [] _ (by simp [zJT];omega) (by simp only [List.length_nil];omega),zAb,putB,if_pos h,h]
  simp
 ·rw [if_pos h,putB,if_neg h]
def U8s (b:List Int):Prop:=∀x∈b,0≤x∧x≤255
theorem zU1 {n:Int} (h:¬127<n):lebP n=[IntKind.u8.wrap n]:=by rw [lebP,if_neg h]
theorem zJW {x:Int} {t:List Int} (h:zAD (x::t)=true):zAD t=true:=by
 cases t with
 | nil=>rfl
 | cons y t=>simp only [zAD,Bool.and_eq_true] at h⊢;exact h.2
theorem zJQ {x:Int} {t:List Int} (h:zAD (x::t)=true):∀y∈t,x<y:=by
 induction t generalizing x with
 | nil=>simp
 | cons y t ih=>
  intro z hz
  simp only [zAD,Bool.and_eq_true,decide_eq_true_eq] at h
  have h2:zAD (y::t)=true:=by simp only [zAD,Bool.and_eq_true];exact h.2
  rcases List.mem_cons.1 hz with rfl | hz
  ·exact h.1
  ·have:=ih h2 z hz;omega
theorem zAcf {x:Int} {t:List Int} (h:zAD t=true) (hx:∀y∈t,x<y):zAD (x::t)=true:=by
 cases t with
 | nil=>rfl
 | cons y t=>
  have h1:=hx y (by simp)
  simp only [zAD,Bool.and_eq_true] at h⊢
  exact ⟨by simpa using h1,h⟩
theorem zPc {dim:Int} {l:List Int}:zCh dim l=0↔meas dim=true∧zAD l=true∧∀n∈l,0≤n∧n<dim:=by
 unfold zCh zGv
 by_cases h:(meas dim&&zAD l&&l.all fun n=>decide (0≤n)&&decide (n<dim))=true
 ·rw [if_pos h]
  simp only [Bool.and_eq_true,zRl] at h
  exact ⟨fun _=>⟨h.1.1,h.1.2,h.2⟩,fun _=>rfl⟩
 ·rw [if_neg h]
  simp only [Bool.and_eq_true,zRl] at h
  exact ⟨fun h'=>by omega,fun h'=>absurd ⟨⟨h'.1,h'.2.1⟩,h'.2.2⟩ h⟩
theorem zK5 {lo hi:Int}:∀{l:List Int},zAD l=true→(∀n∈l,lo≤n∧n<hi)→(l.length:Int)≤hi-lo∨l=[]
 | [],_,_=> .inr rfl
 | x::t,hr,h=>by
  left
  have hx:=h x (by simp)
  rcases zK5 (lo:=x+1) (hi:=hi) (zJW hr) (fun n hn=>⟨by have:=zJQ hr n hn;omega,(h n (by simp [hn])).2⟩) with h1 | rfl
  ·simp only [List.length_cons];push_cast;omega
  ·simp only [List.length_cons,List.length_nil];omega
theorem zXF (dim:Int) (l:List Int) (hl:l.length≤1099511627776):(putB dim l).length≤10*l.length+10:=by
 unfold putB
 split
 ·have h2:=zLI (IntKind.u64.wrap l.length::gaps (-1) l) (by
   intro n hn
   rcases List.mem_cons.1 hn with rfl | hn
   ·exact (zL8 _).2
   ·exact (zTo _ _ n hn).2)
  simp only [List.length_cons,zJT] at h2
  omega
 ·simp
end Go.Proofs.YtdgdgfckcnjpfaaGreat.Abs
