/- Plain facts: what is gathered, what is spread. Conditions: none. -/
import Derived.Test.YtdgdgfckcnjpfaaGreatPL3
namespace Go.Proofs.YtdgdgfckcnjpfaaGreat.Abs
open Go Go.RowKit Go.IntWalk
set_option linter.unusedVariables false
set_option linter.unusedSimpArgs false
set_option linter.unusedSectionVars false
set_option linter.unnecessarySimpa false
set_option maxRecDepth 100000
set_option linter.unusedSimpArgs false
set_option maxRecDepth 100000
theorem zHw:∀{l:List Int},zAD l=true↔l.Pairwise (·<·)
 | []=>by simp [zAD]
 | x::t=>by
  rw [List.pairwise_cons,←zHw]
  exact ⟨fun h=>⟨zJQ h,zJW h⟩,fun h=>zAcf h.2 h.1⟩
theorem zLs:∀{a b:List Int},zAD a=true→zAD b=true→(∀n,n∈a↔n∈b)→a=b
 | [],[],_,_,_=>rfl
 | [],y::b,_,_,h=>absurd ((h y).2 (by simp)) (by simp)
 | x::a,[],_,_,h=>absurd ((h x).1 (by simp)) (by simp)
 | x::a,y::b,ha,hb,h=>by
  have hx:=zJQ ha
  have hy:=zJQ hb
  have e:x=y:=by
   have h1:=(h x).1 (by simp)
   have h2:=(h y).2 (by simp)
   rcases List.mem_cons.1 h1 with h1 | h1
   ·exact h1
   ·rcases List.mem_cons.1 h2 with h2 | h2
    ·exact h2.symm
    ·have:=hx y h2;have:=hy x h1;omega
  subst e
  rw [zLs (zJW ha) (zJW hb) fun n=> ?_]
  constructor
  ·intro hn
   rcases List.mem_cons.1 ((h n).1 (List.mem_cons_of_mem _ hn)) with rfl | h1
   ·exact absurd (hx _ hn) (by omega)
   ·exact h1
  ·intro hn
   rcases List.mem_cons.1 ((h n).2 (List.mem_cons_of_mem _ hn)) with rfl | h1
   ·exact absurd (hy _ hn) (by omega)
   ·exact h1
theorem zAeQ (n:Int) (v:List Int):zEN n v=some (decide (n<0)||decide (n≥v.length)):=by rw [zEN,orB]
theorem zQF (l v:List Int) (hl:l.length≤4611686018427387904):∀(t:List Int) (k:Nat),l.drop k=t→∃e,zAv l v (k:Int)=some e∧((∀n∈t,0≤n∧n<v.length)→e= .inr ())∧(¬(∀n∈t,0≤n∧n<v.length)→∃i:Int,0≤i∧e= .inl i)
 | [],k,h=>by
  rw [zAv,if_neg (zAp h)]
  exact ⟨_,rfl,fun _=>rfl,fun h=>absurd (by simp) h⟩
 | x::t,k,h=>by
  have h1:=zAh h
  obtain ⟨e,g1,g2,g3⟩:=zQF l v hl t (k+1) h1.2.2
  rw [zAv,if_pos h1.1,if_pos (by omega),h1.2.1,zAeQ,zAb,zAx (by omega),g1]
  by_cases hx:0≤x∧x<v.length
  ·rw [if_neg (by simp;omega)]
   refine ⟨e,rfl,fun h=>g2 fun n hn=>h n (by simp [hn]),fun h=>g3 fun h'=>h fun n hn=> ?_⟩
   rcases List.mem_cons.1 hn with rfl | hn
   ·exact hx
   ·exact h' n hn
  ·rw [if_pos (by simp;omega)]
   exact ⟨_,rfl,fun h=>absurd (h x (by simp)) hx,fun _=>⟨k,by omega,rfl⟩⟩
theorem zZk (l v:List Int) (hl:l.length≤4611686018427387904):zA1 l v=some (decide (¬∀n∈l,0≤n∧n<(v.length:Int))):=by
 rw [zA1,zBM]
 obtain ⟨e,g1,g2,g3⟩:=zQF l v hl l 0 rfl
 rw [show ((0:Nat):Int)=0 from rfl] at g1
 rw [g1]
 by_cases h:∀n∈l,0≤n∧n<(v.length:Int)
 ·rw [g2 h,decide_eq_false (by simpa using h)];rfl
 ·obtain ⟨i,h0,rfl⟩:=g3 h
  rw [decide_eq_true h]
  simp [zAb,h0]
theorem zV1 (l v:List Int) (hl:l.length≤1099511627776) (hv:∀n∈l,0≤n∧n<(v.length:Int)):∀(t:List Int) (k:Nat) (acc:List Int),l.drop k=t→acc.length≤k→zCD l v (k:Int) acc=some (acc++t.map (at' v))
 | [],k,acc,h,ha=>by
  rw [zCD,if_neg (zAp h)];simp
 | x::t,k,acc,h,ha=>by
  have h1:=zAh h
  have hx:=hv x (List.mem_of_mem_drop (by rw [h];simp))
  rw [zCD,if_pos h1.1,if_pos (by omega),h1.2.1,if_pos hx,if_pos (zEy (by simp;omega)),zAb,zAx (by omega),zV1 l v hl hv t (k+1) _ h1.2.2 (by simp;omega)]
  simp
theorem zWt (l v:List Int) (hl:l.length≤1099511627776) (hr:zAD l=true) (hv:∀n∈l,0≤n∧n<(v.length:Int)):zHt l v=some (l.map (at' v),0):=by
 have h1:=zV1 l v hl hv l 0 [] rfl (by simp)
 rw [show ((0:Nat):Int)=0 from rfl] at h1
 have hd:decide (¬∀n∈l,0≤n∧n<(v.length:Int))=false:=decide_eq_false (fun h=>h hv)
 rw [zHt,zYq l (by omega),zAb,hr,zZk l v (by omega),zAb,orB,hd,if_neg (by simp),if_pos (by omega),zAb]
 simp only [Int.toNat_zero,List.replicate_zero]
 rw [h1];simp
def zDP:List Int→List Int→List Int→List Int
 | out,n::t,x::u=>zDP (out.set n.toNat x) t u
 | out,_,_=>out
theorem zSN:∀(l a out:List Int),(zDP out l a).length=out.length
 | [],a,out=>by cases a<;>simp [zDP]
 | n::t,[],out=>by simp [zDP]
 | n::t,x::u,out=>by rw [zDP,zSN t u];simp
theorem zWw (l a:List Int) (hl:l.length≤4611686018427387904) (he:l.length=a.length) (D:Int) (hv:∀n∈l,0≤n∧n<D):∀(t u:List Int) (k:Nat) (out:List Int),l.drop k=t→a.drop k=u→(out.length:Int)=D→zCC l a (k:Int) out=some (zDP out t u)
 | [],u,k,out,h,h',ho=>by
  rw [zCC,if_neg (zAp h)];cases u<;>simp [zDP]
 | x::t,[],k,out,h,h',ho=>by
  have:=List.drop_eq_nil_iff.1 h'
  have:=(zAh h).1
  omega
 | x::t,y::u,k,out,h,h',ho=>by
  have h1:=zAh h
  have h2:=zAh h'
  have hx:=hv x (List.mem_of_mem_drop (by rw [h];simp))
  rw [zCC,if_pos h1.1,if_pos (by omega),if_pos (by omega),h1.2.1,if_pos (by omega),zAb,h2.2.1,zAx (by omega),zWw l a hl he D hv t u (k+1) _ h1.2.2 h2.2.2 (by simpa using ho)]
  rfl
theorem zAbR (dim:Int) (l a:List Int) (hl:l.length≤4611686018427387904) (h:zCh dim l=0) (he:l.length=a.length):zHl dim l a=some (zDP (List.replicate dim.toNat 0) l a,0):=by
 have h':=h
 rw [zPc] at h
 have hm:=h.1
 simp only [meas,Bool.and_eq_true,decide_eq_true_eq] at hm
 have h1:=zWw l a hl he dim h.2.2 l a 0 (List.replicate dim.toNat 0) rfl rfl (by simp;omega)
 rw [show ((0:Nat):Int)=0 from rfl] at h1
 rw [zHl,zTn dim l hl,zAb,h',if_neg (by simp),if_neg (by omega),if_pos (by omega),zAb,h1,zAb]
end Go.Proofs.YtdgdgfckcnjpfaaGreat.Abs
