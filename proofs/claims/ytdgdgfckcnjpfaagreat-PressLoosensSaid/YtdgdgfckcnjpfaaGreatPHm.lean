/- Plain facts: lists put together. Conditions: none. -/
import Derived.Lib.SlicesCompact
import Derived.Test.YtdgdgfckcnjpfaaGreatPL5
import Derived.Test.YtdgdgfckcnjpfaaGreatSrtS
namespace Go.Proofs.YtdgdgfckcnjpfaaGreat.Abs
open Go Go.RowKit Go.IntWalk
set_option linter.unusedVariables false
set_option linter.unusedSimpArgs false
set_option linter.unusedSectionVars false
set_option linter.unnecessarySimpa false
set_option maxRecDepth 100000
set_option linter.unusedSimpArgs false
set_option maxRecDepth 100000
theorem zUC (d:Array Int) (hs:∀i j,i≤j→j<d.size→d[i]!≤d[j]!):∀m,m≤d.size→(Lib.compactUpTo d m).Pairwise (·<·)∧∀n,n∈Lib.compactUpTo d m↔∃i,i<m∧d[i]! =n
 | 0,_=>by simp [Lib.compactUpTo]
 | m+1,hm=>by
  obtain ⟨h1,h2⟩:=zUC d hs m (by omega)
  rw [Lib.compactUpTo_succ]
  have last:∀n,(∃i,i<m+1∧d[i]! =n)↔(∃i,i<m∧d[i]! =n)∨d[m]! =n:=by
   intro n
   constructor
   ·rintro ⟨i,hi,e⟩
    by_cases him:i=m
    ·subst him;exact .inr e
    ·exact .inl ⟨i,by omega,e⟩
   ·rintro (⟨i,hi,e⟩ | e)
    ·exact ⟨i,by omega,e⟩
    ·exact ⟨m,by omega,e⟩
  cases hk:Lib.keeps d m with
  | true=>
   simp only [if_true]
   have hk':m=0∨d[m]!≠d[m-1]! :=by simpa [Lib.keeps] using hk
   refine ⟨?_,fun n=> ?_⟩
   ·rw [List.pairwise_append]
    refine ⟨h1,by simp, ?_⟩
    intro x hx y hy
    obtain ⟨i,hi,e⟩:=(h2 x).1 hx
    have:y=d[m]! :=by simpa using hy
    subst this
    rcases hk' with h0 | h0
    ·omega
    ·have a1:=hs i (m-1) (by omega) (by omega)
     have a2:=hs (m-1) m (by omega) (by omega)
     omega
   ·rw [List.mem_append,h2,last]
    simp [eq_comm]
  | false=>
   simp only [Bool.false_eq_true,if_false,List.append_nil]
   have hk':¬(m=0∨d[m]!≠d[m-1]!):=by simpa [Lib.keeps] using hk
   refine ⟨h1,fun n=> ?_⟩
   rw [h2,last]
   constructor
   ·exact .inl
   ·rintro (h | h)
    ·exact h
    ·refine ⟨m-1,by omega, ?_⟩
     rw [←h]
     by_cases e:d[m]! =d[m-1]!
     ·exact e.symm
     ·exact absurd (.inr e) hk'
def zN3 (l:List Int):List Int:=Lib.compact (l.mergeSort fun x y=>decide (x≤y))
theorem zQy (l:List Int):zAD (zN3 l)=true∧∀n,n∈zN3 l↔n∈l:=by
 have hp:(l.mergeSort fun x y=>decide (x≤y)).Pairwise (fun x y=>decide (x≤y)=true):=
  List.pairwise_mergeSort (fun a b c h1 h2=>by simp at*;omega) (fun a b=>by simp;omega) l
 generalize hd:(l.mergeSort fun x y=>decide (x≤y))=s at hp
 have hmem:∀n,n∈s↔n∈l:=fun n=>by rw [←hd];exact List.mem_mergeSort
 have hs:∀i j,i≤j→j<s.toArray.size→s.toArray[i]!≤s.toArray[j]! :=by
  intro i j hij hj
  have hj':j<s.length:=by simpa using hj
  rw [getElem!_pos s.toArray i (by simp;omega),getElem!_pos s.toArray j hj]
  simp only [List.getElem_toArray]
  by_cases e:i=j
  ·subst e;exact Int.le_refl _
  ·have:=List.pairwise_iff_getElem.1 hp i j (by omega) hj' (by omega)
   simpa using this
 obtain ⟨h1,h2⟩:=zUC s.toArray hs s.length (by simp)
 have e:zN3 l=Lib.compactUpTo s.toArray s.length:=by rw [zN3,hd,Lib.compact]
 rw [e]
 refine ⟨zHw.2 h1,fun n=> ?_⟩
 rw [h2,←hmem]
 constructor
 ·rintro ⟨i,hi,e⟩
  rw [getElem!_pos s.toArray i (by simpa using hi)] at e
  subst e
  simp
 ·intro hn
  obtain ⟨i,hi,e⟩:=List.getElem_of_mem hn
  refine ⟨i,hi, ?_⟩
  rw [getElem!_pos s.toArray i (by simpa using hi)]
  simpa using e
theorem zAdq (l : List Int) (n : Int) (hl : l.length ≤ 4611686018427387904) : ∀ (t : List Int) (k : Nat), l.drop k = t → zCk l n (k : Int) = some (if n ∈ t then .inl true else .inr ())
  | [], k, h => by rw [zCk, if_neg (zAp h)]; simp
  | x :: t, k, h => by
    obtain ⟨h1, h2, h3⟩ := zAh h
    rw [zCk, if_pos h1, if_pos ⟨by omega, h1⟩, h2]
    by_cases hx : x = n
    · rw [if_pos hx, if_pos (by simp [hx])]
    · rw [if_neg hx, zAx (by omega), zAdq l n hl t (k + 1) h3]
      congr 1
      by_cases ht : n ∈ t
      · rw [if_pos ht, if_pos (List.mem_cons_of_mem _ ht)]
      · rw [if_neg ht, if_neg (fun h => by rcases List.mem_cons.1 h with h | h
                                           · exact hx h.symm
                                           · exact ht h)]
theorem zAeH (l:List Int) (n:Int) (hl:l.length≤4611686018427387904):zGW l n=some (decide (n∈l)):=by
 have h0:=zAdq l n hl l 0 rfl
 rw [show ((0:Nat):Int)=0 from rfl] at h0
 rw [zGW,h0,zAb]
 by_cases h:n∈l<;>simp [h]
set_option linter.unusedSimpArgs false
set_option maxRecDepth 100000
def insP (out:List Int) (n:Int):List Int:=if n∈out then out else out.filter (fun m=>decide (m<n))++n::out.filter (fun m=>decide (n<m))
theorem zAaL {out:List Int} (n:Int) (hr:zAD out=true):zAD (insP out n)=true∧(∀m,m∈insP out n↔m∈out∨m=n)∧(insP out n).length≤out.length+1:=by
 unfold insP
 by_cases h:n∈out
 ·rw [if_pos h]
  exact ⟨hr,fun m=>⟨.inl,fun h'=>h'.elim id (fun e=>e▸h)⟩,by omega⟩
 ·rw [if_neg h]
  refine ⟨?_,fun m=> ?_, ?_⟩
  ·have hp:=zHw.1 hr
   rw [zHw,List.pairwise_append]
   refine ⟨hp.filter _, ?_, ?_⟩
   ·rw [List.pairwise_cons]
    exact ⟨fun m hm=>by have:=(List.mem_filter.1 hm).2;simpa using this,hp.filter _⟩
   ·intro a ha b hb
    have h1:a<n:=by have:=(List.mem_filter.1 ha).2;simpa using this
    rcases List.mem_cons.1 hb with rfl | hb
    ·exact h1
    ·have h2:n<b:=by have:=(List.mem_filter.1 hb).2;simpa using this
     omega
  ·simp only [List.mem_append,List.mem_filter,List.mem_cons,decide_eq_true_eq]
   constructor
   ·rintro (h1 | rfl | h1)
    ·exact .inl h1.1
    ·exact .inr rfl
    ·exact .inl h1.1
   ·rintro (h1 | rfl)
    ·by_cases e:m<n
     ·exact .inl ⟨h1,e⟩
     ·by_cases e2:m=n
      ·exact .inr (.inl e2)
      ·exact .inr (.inr ⟨h1,by omega⟩)
    ·exact .inr (.inl rfl)
  ·simp only [List.length_append,List.length_cons]
   have:∀(t:List Int),n∉t→(t.filter fun m=>decide (m<n)).length+(t.filter fun m=>decide (n<m)).length=t.length:=by
    intro t
    induction t with
    | nil=>simp
    | cons x t ih=>
     intro hn
     have h1:=ih (fun h=>hn (List.mem_cons_of_mem _ h))
     have h2:n≠x:=fun e=>hn (by simp [e])
     simp only [List.filter_cons,List.length_cons]
     by_cases hx:x<n
     ·have hx':¬n<x:=by omega
      simp only [hx,hx',decide_true,decide_false,if_true,Bool.false_eq_true,if_false,List.length_cons];omega
     ·have hx':n<x:=by omega
      simp only [hx,hx',decide_true,decide_false,if_true,Bool.false_eq_true,if_false,List.length_cons];omega
   have:=this out h
   omega
section
variable (L:List (List Int)) (x0 x1:Int) (n:Int) (hn:at' (at' L x0) x1=n) (out:List Int) (ho:out.length≤1000000)
include hn ho
theorem zAaE:∀(t:List Int) (k:Nat) (acc:List Int),out.drop k=t→acc.length≤2000000+k→zBl L x0 x1 out (k:Int) acc=some (acc++t.filter fun m=>decide (m<n))
 | [],k,acc,h,ha=>by rw [zBl,if_neg (zAp h)];simp
 | x::t,k,acc,h,ha=>by
  obtain ⟨h1,h2,h3⟩:=zAh h
  rw [zBl,if_pos h1,if_pos ⟨by omega,h1⟩,h2,hn]
  by_cases hx:x<n
  ·rw [if_pos hx,if_pos (zEy (by simp;omega)),zAx (by omega),zAaE t (k+1) _ h3 (by simp;omega),List.filter_cons,if_pos (by simp [hx])]
   simp
  ·rw [if_neg hx,zAx (by omega),zAaE t (k+1) _ h3 (by omega),List.filter_cons,if_neg (by simp [hx])]
theorem zAah:∀(t:List Int) (k:Nat) (acc:List Int),out.drop k=t→acc.length≤2000000+k→zBg L x0 x1 out (k:Int) acc=some (acc++t.filter fun m=>decide (n<m))
 | [],k,acc,h,ha=>by rw [zBg,if_neg (zAp h)];simp
 | x::t,k,acc,h,ha=>by
  obtain ⟨h1,h2,h3⟩:=zAh h
  rw [zBg,if_pos h1,if_pos ⟨by omega,h1⟩,h2,hn]
  by_cases hx:n<x
  ·rw [if_pos hx,if_pos (zEy (by simp;omega)),zAx (by omega),zAah t (k+1) _ h3 (by simp;omega),List.filter_cons,if_pos (by simp [hx])]
   simp
  ·rw [if_neg hx,zAx (by omega),zAah t (k+1) _ h3 (by omega),List.filter_cons,if_neg (by simp [hx])]
end
theorem zAdo (L:List (List Int)) (x0:Int) (hL:(at' L x0).length≤1000):∀(t:List Int) (k:Nat) (out:List Int),(at' L x0).drop k=t→zAD out=true→out.length+t.length≤1000000→
  ∃R,zBf L x0 (k:Int) out=some R∧zAD R=true∧R.length≤out.length+t.length∧∀m,m∈R↔m∈out∨m∈t
 | [],k,out,h,hr,ho=>by
  refine ⟨out, ?_,hr,by simp,by simp⟩
  rw [zBf,if_neg (zAp h)]
 | x::t,k,out,h,hr,ho=>by
  obtain ⟨h1,h2,h3⟩:=zAh h
  obtain ⟨g1,g2,g3⟩:=zAaL x hr
  simp only [List.length_cons] at ho
  obtain ⟨R,e1,e2,e3,e4⟩:=zAdo L x0 hL t (k+1) (insP out x) h3 g1 (by omega)
  refine ⟨R, ?_,e2,by simp;omega,fun m=> ?_⟩
  ·rw [zBf,if_pos h1,if_pos ⟨by omega,h1⟩,h2,zAeH out x (by omega),zAb]
   by_cases hx:x∈out
   ·have:insP out x=out:=by unfold insP;rw [if_pos hx]
    rw [this] at e1
    rw [if_pos (by simp [hx]),zAx (by omega),e1]
   ·have hi:insP out x=out.filter (fun m=>decide (m<x))++x::out.filter (fun m=>decide (x<m)):=by unfold insP;rw [if_neg hx]
    have f1:=List.length_filter_le (fun m=>decide (m<x)) out
    have k2:=zAaE L x0 k x h2 out (by omega) out 0 [] rfl (by simp)
    have k3:=zAah L x0 k x h2 out (by omega) out 0 (out.filter (fun m=>decide (m<x))++[x]) rfl (by simp;omega)
    rw [show ((0:Nat):Int)=0 from rfl] at k2 k3
    rw [if_neg (by simp [hx]),k2,zAb,List.nil_append,if_pos (zEy (by simp;omega)),zAb,k3,zAb,zAx (by omega)]
    rw [←e1,hi]
    simp
  ·rw [e4,g2]
   simp only [List.mem_cons]
   constructor
   ·rintro ((h | h) | h)
    ·exact .inl h
    ·exact .inr (.inl h)
    ·exact .inr (.inr h)
   ·rintro (h | h | h)
    ·exact .inl (.inl h)
    ·exact .inl (.inr h)
    ·exact .inr h
theorem zAdk (L:List (List Int)) (hL:∀l∈L,l.length≤1000) (hN:L.length≤4611686018427387904):∀(t:List (List Int)) (k:Nat) (out:List Int),L.drop k=t→zAD out=true→out.length+t.flatten.length≤1000000→
  ∃R,zBK L (k:Int) out=some R∧zAD R=true∧R.length≤out.length+t.flatten.length∧∀m,m∈R↔m∈out∨m∈t.flatten
 | [],k,out,h,hr,ho=>by
  refine ⟨out, ?_,hr,by simp,by simp⟩
  rw [zBK,if_neg (zAp h)]
 | x::t,k,out,h,hr,ho=>by
  obtain ⟨h1,h2,h3⟩:=zAh h
  have hx:x∈L:=by
   have:x∈L.drop k:=by rw [h];simp
   exact List.mem_of_mem_drop this
  simp only [List.flatten_cons,List.length_append] at ho
  obtain ⟨R1,a1,a2,a3,a4⟩:=zAdo L (k:Int) (by rw [h2];exact hL x hx) x 0 out (by rw [h2];rfl) hr (by omega)
  obtain ⟨R,e1,e2,e3,e4⟩:=zAdk L hL hN t (k+1) R1 h3 a2 (by omega)
  refine ⟨R, ?_,e2,by simp only [List.flatten_cons,List.length_append];omega,fun m=> ?_⟩
  ·rw [show ((0:Nat):Int)=0 from rfl] at a1
   rw [zBK,if_pos h1,if_pos ⟨by omega,h1⟩,a1,zAb,zAx (by omega),e1]
  ·rw [e4,a4]
   simp only [List.flatten_cons,List.mem_append]
   constructor
   ·rintro ((h | h) | h)
    ·exact .inl h
    ·exact .inr (.inl h)
    ·exact .inr (.inr h)
   ·rintro (h | h | h)
    ·exact .inl (.inl h)
    ·exact .inl (.inr h)
    ·exact .inr h
theorem zZg (L:List (List Int)) (hL:∀l∈L,l.length≤1000) (hN:L.length≤4611686018427387904) (hF:L.flatten.length≤1000000):zER L=some (zN3 L.flatten):=by
 obtain ⟨R,e1,e2,e3,e4⟩:=zAdk L hL hN L 0 [] rfl rfl (by simpa using hF)
 rw [show ((0:Nat):Int)=0 from rfl] at e1
 obtain ⟨g1,g2⟩:=zQy L.flatten
 rw [zER,e1,zAb,zLs e2 g1 fun n=>by rw [e4,g2];simp]
end Go.Proofs.YtdgdgfckcnjpfaaGreat.Abs
