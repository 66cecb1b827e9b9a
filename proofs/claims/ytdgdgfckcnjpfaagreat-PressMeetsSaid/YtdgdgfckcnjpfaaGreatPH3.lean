/- Plain facts: what is picked are those of a rank. Conditions: none. -/
import Derived.Test.YtdgdgfckcnjpfaaGreatPH2
import Derived.Test.YtdgdgfckcnjpfaaGreatPL5
namespace Go.Proofs.YtdgdgfckcnjpfaaGreat.Abs
open Go Go.RowKit Go.IntWalk
set_option linter.unusedVariables false
set_option linter.unusedSimpArgs false
set_option linter.unusedSectionVars false
set_option maxRecDepth 100000
def zJE (n:Int):Int:=if n<0 then IntKind.u64.wrap (0-IntKind.u64.wrap n) else IntKind.u64.wrap n
theorem zZL {n:Int} (h: -9223372036854775808≤n∧n≤9223372036854775807):zJE n=(n.natAbs:Int):=by
 unfold zJE
 split
 ·rw [IntKind.wrap_u64,IntKind.wrap_u64];omega
 ·rw [IntKind.wrap_u64];omega
theorem zAcf (n:Int):zJH n=some (zJE n):=by
 rw [zJH,zJE]
 split<;>rfl
def oneF:Nat→List Int→List zAa
 | _,[]=>[]
 | k,x::t=>⟨(k:Int),zJE x⟩::oneF (k+1) t
theorem zRf:∀(k:Nat) (t:List Int),(oneF k t).length=t.length
 | _,[]=>rfl
 | k,x::t=>by simp [oneF,zRf (k+1) t]
theorem zX0 (v:List Int) (hv:v.length≤50000):∀(t:List Int) (k:Nat) (pre:List zAa),v.drop k=t→pre.length=k→zDl v (k:Int) (pre++List.replicate t.length ⟨0,0⟩)=some (pre++oneF k t)
 | [],k,pre,h,hp=>by rw [zDl,if_neg (zAI h)];simp [oneF]
 | x::t,k,pre,h,hp=>by
  obtain ⟨h1,h2,h3⟩:=zAm h
  have hs:(pre++List.replicate (x::t).length (⟨0,0⟩:zAa)).set (Int.toNat (k:Int)) ⟨(k:Int),zJE x⟩=(pre++[⟨(k:Int),zJE x⟩])++List.replicate t.length ⟨0,0⟩:=by
   rw [Int.toNat_natCast,List.set_append_right _ _ (by omega),List.length_cons,List.replicate_succ,show k-pre.length=0 by omega]
   simp
  rw [zDl,if_pos h1,if_pos ⟨by omega,h1⟩,h2,zAcf,zAb,if_pos ⟨by omega,by simp;omega⟩,zAb,zA6 (by omega),hs,zX0 v hv t (k+1) _ h3 (by simp;omega)]
  simp [oneF]
def zGt (v:List Int):List zAa:=oneF 0 v
theorem zAcj (v:List Int) (hv:v.length≤50000):zJB v=some (zGt v):=by
 have h:=zX0 v hv v 0 [] rfl rfl
 rw [show ((0:Nat):Int)=0 from rfl] at h
 rw [zJB,if_pos (by omega),zAb,Int.toNat_natCast]
 simp only [List.nil_append] at h
 rw [h];rfl
theorem zTZ (l:List zAa) (hl:l.length≤1000000):∀(t:List zAa) (k:Nat) (acc:List Int),l.drop k=t→acc.length≤k→zCH l (k:Int) acc=some (acc++t.map zAa.F_place)
 | [],k,acc,h,ha=>by rw [zCH,if_neg (zAI h)];simp
 | x::t,k,acc,h,ha=>by
  obtain ⟨h1,h2,h3⟩:=zAm h
  rw [zCH,if_pos h1,if_pos ⟨by omega,h1⟩,h2,if_pos (zJv (by simp;omega)),zAb,zA6 (by omega),zTZ l hl t (k+1) _ h3 (by simp;omega)]
  simp
theorem zAaJ (l:List zAa) (hl:l.length≤1000000):zHi l=some (l.map zAa.F_place):=by
 have h:=zTZ l hl l 0 [] rfl (by simp)
 rw [show ((0:Nat):Int)=0 from rfl] at h
 rw [zHi,if_pos (by omega),zAb]
 simp only [Int.toNat_zero,List.replicate_zero]
 rw [h];simp
theorem zNP:∀(t:List Int) (k:Nat) (x:zAa),x∈oneF k t↔∃i,i<t.length∧x=⟨((k+i:Nat):Int),zJE (t.getD i 0)⟩
 | [],k,x=>by simp [oneF]
 | y::t,k,x=>by
  rw [oneF,List.mem_cons,zNP t (k+1) x]
  constructor
  ·rintro (rfl | ⟨i,hi,rfl⟩)
   ·exact ⟨0,by simp,by simp⟩
   ·exact ⟨i+1,by simpa using hi,by simp only [List.getD_cons_succ];rw [show k+1+i=k+(i+1) by omega]⟩
  ·rintro ⟨i,hi,rfl⟩
   cases i with
   | zero=>exact .inl (by simp)
   | succ i=>exact .inr ⟨i,by simpa using hi,by simp only [List.getD_cons_succ];rw [show k+1+i=k+(i+1) by omega]⟩
theorem zPV:∀(t:List Int) (k:Nat),(oneF k t).Pairwise (fun a b=>a.F_place<b.F_place)
 | [],k=>List.Pairwise.nil
 | y::t,k=>by
  rw [oneF,List.pairwise_cons]
  refine ⟨fun b hb=> ?_,zPV t (k+1)⟩
  obtain ⟨i,hi,rfl⟩:=(zNP t (k+1) b).1 hb
  simp only;omega
theorem zYE (v:List Int):(zGt v).Nodup:=(zPV v 0).imp fun h e=>by rw [e] at h;omega
def rank (v:List Int) (x:zAa):Nat:=(zGt v).countP fun y=>decide (bh x y)
def zDo (k:Nat) (v:List Int):List Int:=((zGt v).filter fun x=>decide (rank v x<k)).map zAa.F_place
theorem zIg (k:Nat) (v:List Int):zBt (zDo k v)=true:=by
 rw [zNR,zDo,List.pairwise_map]
 exact (zPV v 0).filter _
theorem zWL {v:List Int} {S R:List zAa} {k:Nat} (hk:k≤v.length) (h:Kept (zGt v) S R k) (x:zAa) (hx:x∈zGt v):x∈S↔rank v x<k:=by
 have hS:S.length=k:=by rw [h.len,zGt,zRf];omega
 have hnd:(S++R).Nodup:=h.perm.nodup_iff.1 (zYE v)
 have hr:rank v x=S.countP (fun y=>decide (bh x y))+R.countP (fun y=>decide (bh x y)):=by
  rw [rank,h.perm.countP_eq,List.countP_append]
 constructor
 ·intro hxS
  have h0:R.countP (fun y=>decide (bh x y))=0:=List.countP_eq_zero.2 fun y hy=>by simpa using h.best x hxS y hy
  have h1:S.countP (fun y=>decide (bh x y))≠S.length:=fun e=>by
   have:=List.countP_eq_length.1 e x hxS
   exact zNn x (by simpa using this)
  have h2:=List.countP_le_length (p:=fun y=>decide (bh x y)) (l:=S)
  omega
 ·intro hlt
  rcases List.mem_append.1 (h.perm.mem_iff.1 hx) with hxS | hxR
  ·exact hxS
  ·exfalso
   have h1:S.countP (fun y=>decide (bh x y))=S.length:=List.countP_eq_length.2 fun y hy=>by
    simp only [decide_eq_true_eq]
    by_cases hb:bh x y
    ·exact hb
    ·have e:=zAdv hb (h.best y hy x hxR)
     subst e
     exact absurd rfl ((List.pairwise_append.1 hnd).2.2 x hy x hxR)
   omega
theorem zUx {v:List Int} {S R:List zAa} {k:Nat} (hk:k≤v.length) (h:Kept (zGt v) S R k):((S.map zAa.F_place).mergeSort fun x y=>decide (x≤y))=zDo k v:=by
 have hp:((S.map zAa.F_place).mergeSort fun x y=>decide (x≤y)).Pairwise (fun x y=>decide (x≤y)=true):=
  List.pairwise_mergeSort (fun a b c h1 h2=>by simp at*;omega) (fun a b=>by simp;omega) _
 have hnd:((zGt v).map zAa.F_place).Nodup:=by
  rw [List.Nodup,List.pairwise_map]
  exact (zPV v 0).imp fun h e=>by omega
 have hS:(S.map zAa.F_place).Nodup:=by
  have:=(h.perm.map zAa.F_place).nodup_iff.1 hnd
  rw [List.map_append] at this
  exact (List.nodup_append.1 this).1
 have hnd2:((S.map zAa.F_place).mergeSort fun x y=>decide (x≤y)).Nodup:=(List.mergeSort_perm _ _).nodup_iff.2 hS
 refine zRT (zNR.2 ?_) (zIg k v) fun n=> ?_
 ·refine (hp.and hnd2).imp fun {a b} hab=> ?_
  have h1:a≤b:=by simpa using hab.1
  have h2:a≠b:=hab.2
  omega
 ·rw [List.mem_mergeSort,zDo]
  simp only [List.mem_map,List.mem_filter,decide_eq_true_eq]
  constructor
  ·rintro ⟨x,hx,rfl⟩
   have hx':x∈zGt v:=h.perm.mem_iff.2 (List.mem_append_left _ hx)
   exact ⟨x,⟨hx',(zWL hk h x hx').1 hx⟩,rfl⟩
  ·rintro ⟨x,⟨hx,hr⟩,rfl⟩
   exact ⟨x,(zWL hk h x hx).2 hr,rfl⟩
theorem zYf (k:Nat) (v:List Int) (hk:k≤v.length) (hv:v.length≤4096):zJJ (k:Int) v=some (zDo k v,0)∧(zDo k v).length=k:=by
 have hl:(zGt v).length=v.length:=zRf 0 v
 have k0:Kept ((zGt v).take 0) [] [] k:=⟨by simp,by simp,by simp⟩
 obtain ⟨S,R,g1,g2⟩:=zXQ k (by omega) (zGt v) (by omega) (zGt v) 0 [] [] rfl k0 (fun c c0 c1=>by simp at c1)
 rw [show ((0:Nat):Int)=0 from rfl] at g1
 have hS:S.length=k:=by rw [g2.len,hl];omega
 have hs:=zUx hk g2
 refine ⟨?_,by rw [←hs];simp [hS]⟩
 rw [zJJ,if_neg (by omega),orB,if_neg (by simp;omega),zAcj v (by omega),zAb,g1,zAb,zAaJ S (by omega),zAb,zFc,if_pos (by simp;omega),zAb,hs]
theorem zQ2 (k:Nat) (v:List Int) (n:Int):n∈zDo k v↔∃i:Nat,i<v.length∧n=i∧rank v ⟨(i:Int),zJE (v.getD i 0)⟩<k:=by
 rw [zDo]
 simp only [List.mem_map,List.mem_filter,decide_eq_true_eq]
 constructor
 ·rintro ⟨x,⟨hx,hr⟩,rfl⟩
  obtain ⟨i,hi,rfl⟩:=(zNP v 0 x).1 hx
  rw [Nat.zero_add] at hr⊢
  exact ⟨i,hi,rfl,hr⟩
 ·rintro ⟨i,hi,rfl,hr⟩
  exact ⟨_,⟨(zNP v 0 _).2 ⟨i,hi,by rw [Nat.zero_add]⟩,hr⟩,rfl⟩
end Go.Proofs.YtdgdgfckcnjpfaaGreat.Abs
