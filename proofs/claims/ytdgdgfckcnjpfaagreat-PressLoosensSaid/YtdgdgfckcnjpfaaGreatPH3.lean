/- Plain facts: what is picked are those of a rank. Conditions: none. -/
import Derived.Test.YtdgdgfckcnjpfaaGreatPH2
import Derived.Test.YtdgdgfckcnjpfaaGreatPL5
namespace Go.Proofs.YtdgdgfckcnjpfaaGreat.Abs
open Go Go.RowKit Go.IntWalk
set_option linter.unusedVariables false
set_option linter.unusedSimpArgs false
set_option linter.unusedSectionVars false
set_option maxRecDepth 100000
def zDs (n:Int):Int:=if n<0 then IntKind.u64.wrap (0-IntKind.u64.wrap n) else IntKind.u64.wrap n
theorem zQZ {n:Int} (h: -9223372036854775808≤n∧n≤9223372036854775807):zDs n=(n.natAbs:Int):=by
 unfold zDs
 split
 ·rw [IntKind.wrap_u64,IntKind.wrap_u64];omega
 ·rw [IntKind.wrap_u64];omega
theorem zAdz (n:Int):zJU n=some (zDs n):=by
 rw [zJU,zDs]
 split<;>rfl
def oneF:Nat→List Int→List zAa
 | _,[]=>[]
 | k,x::t=>⟨(k:Int),zDs x⟩::oneF (k+1) t
theorem zLz:∀(k:Nat) (t:List Int),(oneF k t).length=t.length
 | _,[]=>rfl
 | k,x::t=>by simp [oneF,zLz (k+1) t]
theorem zZN (v:List Int) (hv:v.length≤50000):∀(t:List Int) (k:Nat) (pre:List zAa),v.drop k=t→pre.length=k→zDl v (k:Int) (pre++List.replicate t.length ⟨0,0⟩)=some (pre++oneF k t)
 | [],k,pre,h,hp=>by rw [zDl,if_neg (zAp h)];simp [oneF]
 | x::t,k,pre,h,hp=>by
  obtain ⟨h1,h2,h3⟩:=zAh h
  have hs:(pre++List.replicate (x::t).length (⟨0,0⟩:zAa)).set (Int.toNat (k:Int)) ⟨(k:Int),zDs x⟩=(pre++[⟨(k:Int),zDs x⟩])++List.replicate t.length ⟨0,0⟩:=by
   rw [Int.toNat_natCast,List.set_append_right _ _ (by omega),List.length_cons,List.replicate_succ,show k-pre.length=0 by omega]
   simp
  rw [zDl,if_pos h1,if_pos ⟨by omega,h1⟩,h2,zAdz,zAb,if_pos ⟨by omega,by simp;omega⟩,zAb,zAx (by omega),hs,zZN v hv t (k+1) _ h3 (by simp;omega)]
  simp [oneF]
def zDu (v:List Int):List zAa:=oneF 0 v
theorem zAdQ (v:List Int) (hv:v.length≤50000):zJP v=some (zDu v):=by
 have h:=zZN v hv v 0 [] rfl rfl
 rw [show ((0:Nat):Int)=0 from rfl] at h
 rw [zJP,if_pos (by omega),zAb,Int.toNat_natCast]
 simp only [List.nil_append] at h
 rw [h];rfl
theorem zWk (l:List zAa) (hl:l.length≤1000000):∀(t:List zAa) (k:Nat) (acc:List Int),l.drop k=t→acc.length≤k→zCP l (k:Int) acc=some (acc++t.map zAa.F_place)
 | [],k,acc,h,ha=>by rw [zCP,if_neg (zAp h)];simp
 | x::t,k,acc,h,ha=>by
  obtain ⟨h1,h2,h3⟩:=zAh h
  rw [zCP,if_pos h1,if_pos ⟨by omega,h1⟩,h2,if_pos (zEy (by simp;omega)),zAb,zAx (by omega),zWk l hl t (k+1) _ h3 (by simp;omega)]
  simp
theorem zAcp (l:List zAa) (hl:l.length≤1000000):zHN l=some (l.map zAa.F_place):=by
 have h:=zWk l hl l 0 [] rfl (by simp)
 rw [show ((0:Nat):Int)=0 from rfl] at h
 rw [zHN,if_pos (by omega),zAb]
 simp only [Int.toNat_zero,List.replicate_zero]
 rw [h];simp
theorem zJB:∀(t:List Int) (k:Nat) (x:zAa),x∈oneF k t↔∃i,i<t.length∧x=⟨((k+i:Nat):Int),zDs (t.getD i 0)⟩
 | [],k,x=>by simp [oneF]
 | y::t,k,x=>by
  rw [oneF,List.mem_cons,zJB t (k+1) x]
  constructor
  ·rintro (rfl | ⟨i,hi,rfl⟩)
   ·exact ⟨0,by simp,by simp⟩
   ·exact ⟨i+1,by simpa using hi,by simp only [List.getD_cons_succ];rw [show k+1+i=k+(i+1) by omega]⟩
  ·rintro ⟨i,hi,rfl⟩
   cases i with
   | zero=>exact .inl (by simp)
   | succ i=>exact .inr ⟨i,by simpa using hi,by simp only [List.getD_cons_succ];rw [show k+1+i=k+(i+1) by omega]⟩
theorem zRB:∀(t:List Int) (k:Nat),(oneF k t).Pairwise (fun a b=>a.F_place<b.F_place)
 | [],k=>List.Pairwise.nil
 | y::t,k=>by
  rw [oneF,List.pairwise_cons]
  refine ⟨fun b hb=> ?_,zRB t (k+1)⟩
  obtain ⟨i,hi,rfl⟩:=(zJB t (k+1) b).1 hb
  simp only;omega
theorem zUe (v:List Int):(zDu v).Nodup:=(zRB v 0).imp fun h e=>by rw [e] at h;omega
def rank (v:List Int) (x:zAa):Nat:=(zDu v).countP fun y=>decide (bh x y)
def zCL (k:Nat) (v:List Int):List Int:=((zDu v).filter fun x=>decide (rank v x<k)).map zAa.F_place
theorem zFL (k:Nat) (v:List Int):zAD (zCL k v)=true:=by
 rw [zHw,zCL,List.pairwise_map]
 exact (zRB v 0).filter _
theorem zXG {v:List Int} {S R:List zAa} {k:Nat} (hk:k≤v.length) (h:Kept (zDu v) S R k) (x:zAa) (hx:x∈zDu v):x∈S↔rank v x<k:=by
 have hS:S.length=k:=by rw [h.len,zDu,zLz];omega
 have hnd:(S++R).Nodup:=h.perm.nodup_iff.1 (zUe v)
 have hr:rank v x=S.countP (fun y=>decide (bh x y))+R.countP (fun y=>decide (bh x y)):=by
  rw [rank,h.perm.countP_eq,List.countP_append]
 constructor
 ·intro hxS
  have h0:R.countP (fun y=>decide (bh x y))=0:=List.countP_eq_zero.2 fun y hy=>by simpa using h.best x hxS y hy
  have h1:S.countP (fun y=>decide (bh x y))≠S.length:=fun e=>by
   have:=List.countP_eq_length.1 e x hxS
   exact zLB x (by simpa using this)
  have h2:=List.countP_le_length (p:=fun y=>decide (bh x y)) (l:=S)
  omega
 ·intro hlt
  rcases List.mem_append.1 (h.perm.mem_iff.1 hx) with hxS | hxR
  ·exact hxS
  ·exfalso
   have h1:S.countP (fun y=>decide (bh x y))=S.length:=List.countP_eq_length.2 fun y hy=>by
    simp only [decide_eq_true_eq]
    by_cases hb:bh x y
    ·exact hb
    ·have e:=zAb2 hb (h.best y hy x hxR)
     subst e
     exact absurd rfl ((List.pairwise_append.1 hnd).2.2 x hy x hxR)
   omega
theorem zPH {v:List Int} {S R:List zAa} {k:Nat} (hk:k≤v.length) (h:Kept (zDu v) S R k):((S.map zAa.F_place).mergeSort fun x y=>decide (x≤y))=zCL k v:=by
 have hp:((S.map zAa.F_place).mergeSort fun x y=>decide (x≤y)).Pairwise (fun x y=>decide (x≤y)=true):=
  List.pairwise_mergeSort (fun a b c h1 h2=>by simp at*;omega) (fun a b=>by simp;omega) _
 have hnd:((zDu v).map zAa.F_place).Nodup:=by
  rw [List.Nodup,List.pairwise_map]
  exact (zRB v 0).imp fun h e=>by omega
 have hS:(S.map zAa.F_place).Nodup:=by
  have:=(h.perm.map zAa.F_place).nodup_iff.1 hnd
  rw [List.map_append] at this
  exact (List.nodup_append.1 this).1
 have hnd2:((S.map zAa.F_place).mergeSort fun x y=>decide (x≤y)).Nodup:=(List.mergeSort_perm _ _).nodup_iff.2 hS
 refine zLs (zHw.2 ?_) (zFL k v) fun n=> ?_
 ·refine (hp.and hnd2).imp fun {a b} hab=> ?_
  have h1:a≤b:=by simpa using hab.1
  have h2:a≠b:=hab.2
  omega
 ·rw [List.mem_mergeSort,zCL]
  simp only [List.mem_map,List.mem_filter,decide_eq_true_eq]
  constructor
  ·rintro ⟨x,hx,rfl⟩
   have hx':x∈zDu v:=h.perm.mem_iff.2 (List.mem_append_left _ hx)
   exact ⟨x,⟨hx',(zXG hk h x hx').1 hx⟩,rfl⟩
  ·rintro ⟨x,⟨hx,hr⟩,rfl⟩
   exact ⟨x,(zXG hk h x hx).2 hr,rfl⟩
theorem zVL (k:Nat) (v:List Int) (hk:k≤v.length) (hv:v.length≤4096):zDx (k:Int) v=some (zCL k v,0)∧(zCL k v).length=k:=by
 have hl:(zDu v).length=v.length:=zLz 0 v
 have k0:Kept ((zDu v).take 0) [] [] k:=⟨by simp,by simp,by simp⟩
 obtain ⟨S,R,g1,g2⟩:=zZ2 k (by omega) (zDu v) (by omega) (zDu v) 0 [] [] rfl k0 (fun c c0 c1=>by simp at c1)
 rw [show ((0:Nat):Int)=0 from rfl] at g1
 have hS:S.length=k:=by rw [g2.len,hl];omega
 have hs:=zPH hk g2
 refine ⟨?_,by rw [←hs];simp [hS]⟩
 rw [zDx,if_neg (by omega),orB,if_neg (by simp;omega),zAdQ v (by omega),zAb,g1,zAb,zAcp S (by omega),zAb,zFA,if_pos (by simp;omega),zAb,hs]
theorem zAb7 (k:Int) (v:List Int) (hv:4096<v.length):zDx k v=some ([],3):=by
 rw [zDx,if_pos (by omega)]
theorem zAda (k:Int) (v:List Int) (hv:v.length≤4096) (hk:k<0∨(v.length:Int)<k):zDx k v=some ([],1):=by
 rw [zDx,if_neg (by omega),orB,if_pos (by simp;omega)]
theorem zOK (k:Nat) (v:List Int) (n:Int):n∈zCL k v↔∃i:Nat,i<v.length∧n=i∧rank v ⟨(i:Int),zDs (v.getD i 0)⟩<k:=by
 rw [zCL]
 simp only [List.mem_map,List.mem_filter,decide_eq_true_eq]
 constructor
 ·rintro ⟨x,⟨hx,hr⟩,rfl⟩
  obtain ⟨i,hi,rfl⟩:=(zJB v 0 x).1 hx
  rw [Nat.zero_add] at hr⊢
  exact ⟨i,hi,rfl,hr⟩
 ·rintro ⟨i,hi,rfl,hr⟩
  exact ⟨_,⟨(zJB v 0 _).2 ⟨i,hi,by rw [Nat.zero_add]⟩,hr⟩,rfl⟩
end Go.Proofs.YtdgdgfckcnjpfaaGreat.Abs
