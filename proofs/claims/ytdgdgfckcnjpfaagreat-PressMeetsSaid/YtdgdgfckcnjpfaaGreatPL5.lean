/- Plain facts: what is gathered, what is spread. Conditions: none. -/
import Derived.Test.YtdgdgfckcnjpfaaGreatPL3
namespace Go.Proofs.YtdgdgfckcnjpfaaGreat.Abs
open Go Go.RowKit Go.IntWalk
set_option linter.unusedVariables false
set_option linter.unusedSimpArgs false
set_option linter.unusedSectionVars false
set_option linter.unnecessarySimpa false
set_option maxRecDepth 100000
set_option linter.unusedSimpArgs false
set_option maxRecDepth 100000
theorem zNR:∀{l:List Int},zBt l=true↔l.Pairwise (·<·)
 | []=>by simp [zBt]
 | x::t=>by
  rw [List.pairwise_cons,←zNR]
  exact ⟨fun h=>⟨zHe h,zG9 h⟩,fun h=>zZF h.2 h.1⟩
theorem zRT:∀{a b:List Int},zBt a=true→zBt b=true→(∀n,n∈a↔n∈b)→a=b
 | [],[],_,_,_=>rfl
 | [],y::b,_,_,h=>absurd ((h y).2 (by simp)) (by simp)
 | x::a,[],_,_,h=>absurd ((h x).1 (by simp)) (by simp)
 | x::a,y::b,ha,hb,h=>by
  have hx:=zHe ha
  have hy:=zHe hb
  have e:x=y:=by
   have h1:=(h x).1 (by simp)
   have h2:=(h y).2 (by simp)
   rcases List.mem_cons.1 h1 with h1 | h1
   ·exact h1
   ·rcases List.mem_cons.1 h2 with h2 | h2
    ·exact h2.symm
    ·have:=hx y h2;have:=hy x h1;omega
  subst e
  rw [zRT (zG9 ha) (zG9 hb) fun n=> ?_]
  constructor
  ·intro hn
   rcases List.mem_cons.1 ((h n).1 (List.mem_cons_of_mem _ hn)) with rfl | h1
   ·exact absurd (hx _ hn) (by omega)
   ·exact h1
  ·intro hn
   rcases List.mem_cons.1 ((h n).2 (List.mem_cons_of_mem _ hn)) with rfl | h1
   ·exact absurd (hy _ hn) (by omega)
   ·exact h1
theorem zAdI (n:Int) (v:List Int):zEL n v=some (decide (n<0)||decide (n≥v.length)):=by rw [zEL,orB]
theorem zPs (l v:List Int) (hl:l.length≤4611686018427387904):∀(t:List Int) (k:Nat),l.drop k=t→∃e,zAt l v (k:Int)=some e∧((∀n∈t,0≤n∧n<v.length)→e= .inr ())∧(¬(∀n∈t,0≤n∧n<v.length)→∃i:Int,0≤i∧e= .inl i)
 | [],k,h=>by
  rw [zAt,if_neg (zAI h)]
  exact ⟨_,rfl,fun _=>rfl,fun h=>absurd (by simp) h⟩
 | x::t,k,h=>by
  have h1:=zAm h
  obtain ⟨e,g1,g2,g3⟩:=zPs l v hl t (k+1) h1.2.2
  rw [zAt,if_pos h1.1,if_pos (by omega),h1.2.1,zAdI,zAb,zA6 (by omega),g1]
  by_cases hx:0≤x∧x<v.length
  ·rw [if_neg (by simp;omega)]
   refine ⟨e,rfl,fun h=>g2 fun n hn=>h n (by simp [hn]),fun h=>g3 fun h'=>h fun n hn=> ?_⟩
   rcases List.mem_cons.1 hn with rfl | hn
   ·exact hx
   ·exact h' n hn
  ·rw [if_pos (by simp;omega)]
   exact ⟨_,rfl,fun h=>absurd (h x (by simp)) hx,fun _=>⟨k,by omega,rfl⟩⟩
theorem zXD (l v:List Int) (hl:l.length≤4611686018427387904):zBj l v=some (decide (¬∀n∈l,0≤n∧n<(v.length:Int))):=by
 rw [zBj,zBN]
 obtain ⟨e,g1,g2,g3⟩:=zPs l v hl l 0 rfl
 rw [show ((0:Nat):Int)=0 from rfl] at g1
 rw [g1]
 by_cases h:∀n∈l,0≤n∧n<(v.length:Int)
 ·rw [g2 h,decide_eq_false (by simpa using h)];rfl
 ·obtain ⟨i,h0,rfl⟩:=g3 h
  rw [decide_eq_true h]
  simp [zAb,h0]
theorem zUb (l v:List Int) (hl:l.length≤1099511627776) (hv:∀n∈l,0≤n∧n<(v.length:Int)):∀(t:List Int) (k:Nat) (acc:List Int),l.drop k=t→acc.length≤k→zCp l v (k:Int) acc=some (acc++t.map (at' v))
 | [],k,acc,h,ha=>by
  rw [zCp,if_neg (zAI h)];simp
 | x::t,k,acc,h,ha=>by
  have h1:=zAm h
  have hx:=hv x (List.mem_of_mem_drop (by rw [h];simp))
  rw [zCp,if_pos h1.1,if_pos (by omega),h1.2.1,if_pos hx,if_pos (zJv (by simp;omega)),zAb,zA6 (by omega),zUb l v hl hv t (k+1) _ h1.2.2 (by simp;omega)]
  simp
theorem zZD (l v:List Int) (hl:l.length≤1099511627776) (hr:zBt l=true) (hv:∀n∈l,0≤n∧n<(v.length:Int)):zGS l v=some (l.map (at' v),0):=by
 have h1:=zUb l v hl hv l 0 [] rfl (by simp)
 rw [show ((0:Nat):Int)=0 from rfl] at h1
 have hd:decide (¬∀n∈l,0≤n∧n<(v.length:Int))=false:=decide_eq_false (fun h=>h hv)
 rw [zGS,zWc l (by omega),zAb,hr,zXD l v (by omega),zAb,orB,hd,if_neg (by simp),if_pos (by omega),zAb]
 simp only [Int.toNat_zero,List.replicate_zero]
 rw [h1];simp
def zD1:List Int→List Int→List Int→List Int
 | out,n::t,x::u=>zD1 (out.set n.toNat x) t u
 | out,_,_=>out
theorem zQG:∀(l a out:List Int),(zD1 out l a).length=out.length
 | [],a,out=>by cases a<;>simp [zD1]
 | n::t,[],out=>by simp [zD1]
 | n::t,x::u,out=>by rw [zD1,zQG t u];simp
theorem zUe (l a:List Int) (hl:l.length≤4611686018427387904) (he:l.length=a.length) (D:Int) (hv:∀n∈l,0≤n∧n<D):∀(t u:List Int) (k:Nat) (out:List Int),l.drop k=t→a.drop k=u→(out.length:Int)=D→zCq l a (k:Int) out=some (zD1 out t u)
 | [],u,k,out,h,h',ho=>by
  rw [zCq,if_neg (zAI h)];cases u<;>simp [zD1]
 | x::t,[],k,out,h,h',ho=>by
  have:=List.drop_eq_nil_iff.1 h'
  have:=(zAm h).1
  omega
 | x::t,y::u,k,out,h,h',ho=>by
  have h1:=zAm h
  have h2:=zAm h'
  have hx:=hv x (List.mem_of_mem_drop (by rw [h];simp))
  rw [zCq,if_pos h1.1,if_pos (by omega),if_pos (by omega),h1.2.1,if_pos (by omega),zAb,h2.2.1,zA6 (by omega),zUe l a hl he D hv t u (k+1) _ h1.2.2 h2.2.2 (by simpa using ho)]
  rfl
theorem zZZ (dim:Int) (l a:List Int) (hl:l.length≤4611686018427387904) (h:zC6 dim l=0) (he:l.length=a.length):zGU dim l a=some (zD1 (List.replicate dim.toNat 0) l a,0):=by
 have h':=h
 rw [zH8] at h
 have hm:=h.1
 simp only [meas,Bool.and_eq_true,decide_eq_true_eq] at hm
 have h1:=zUe l a hl he dim h.2.2 l a 0 (List.replicate dim.toNat 0) rfl rfl (by simp;omega)
 rw [show ((0:Nat):Int)=0 from rfl] at h1
 rw [zGU,zRc dim l hl,zAb,h',if_neg (by simp),if_neg (by omega),if_pos (by omega),zAb,h1,zAb]
end Go.Proofs.YtdgdgfckcnjpfaaGreat.Abs
