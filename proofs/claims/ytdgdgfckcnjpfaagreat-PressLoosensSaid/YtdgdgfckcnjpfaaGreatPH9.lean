/- Plain facts: what the document picks, and presses. Conditions: none. -/
import Derived.Test.YtdgdgfckcnjpfaaGreatPH8
namespace Go.Proofs.YtdgdgfckcnjpfaaGreat.Abs
open Go Go.RowKit Go.IntWalk
set_option linter.unusedVariables false
set_option linter.unusedSimpArgs false
set_option linter.unusedSectionVars false
set_option maxRecDepth 100000
theorem zAaZ (k0:Int) (v:List Int) (hi:I64s v) (hv:v.length≤600∨4096<v.length):∃r,zDx k0 v=some r∧zDf k0 v=some r∧r.1.length≤v.length∧(∀n∈r.1,0≤n∧n<(v.length:Int))∧zAD r.1=true:=by
 by_cases h4:4096<v.length
 ·refine ⟨([],3),zAb7 k0 v h4, ?_,by simp,by simp,rfl⟩
  rw [zDf,zDI,if_pos (by omega),zAb]
  rfl
 ·have hl:=zO8 v
  by_cases hk:k0<0∨(v.length:Int)<k0
  ·refine ⟨([],1),zAda k0 v (by omega) hk, ?_,by simp,by simp,rfl⟩
   rw [zDf,zSG v hi (by omega),zAb]
   simp only
   rw [if_neg (by simp),orB,if_pos (by simp;omega)]
  ·obtain ⟨k,rfl⟩:∃k:Nat,k0=k:=⟨k0.toNat,by omega⟩
   obtain ⟨pk,lk⟩:=zVL k v (by omega) (by omega)
   refine ⟨(zCL k v,0),pk, ?_,by simp only;omega,fun n hn=>by obtain ⟨i,h1,rfl,_⟩:=(zOK k v n).1 hn;omega,zFL k v⟩
   have hcut:cut' ((zBe v).map zAa.F_place) none (some (k:Int))=((zBe v).take k).map zAa.F_place:=by simp [cut',List.map_take]
   have hK:Kept (zDu v) ((zBe v).take k) ((zBe v).drop k) k:=by
    refine ⟨by rw [List.take_append_drop];exact (zGz v).symm,by rw [List.length_take,hl,zDu,zLz],fun x hx y hy=> ?_⟩
    have hpw:=zWh v
    rw [←List.take_append_drop k (zBe v),List.pairwise_append] at hpw
    exact zLt (hpw.2.2 x hx y hy)
   have hs:=zPH (by omega) hK
   have hM:=zZg [((zBe v).take k).map zAa.F_place] (by simp;omega) (by simp) (by simp;omega)
   have hmp:zN3 [((zBe v).take k).map zAa.F_place].flatten=zCL k v:=by
    obtain ⟨m1,m2⟩:=zQy [((zBe v).take k).map zAa.F_place].flatten
    refine zLs m1 (zFL k v) fun n=> ?_
    rw [m2,←hs,List.mem_mergeSort]
    simp
   rw [zDf,zSG v hi (by omega),zAb]
   simp only
   rw [if_neg (by simp),orB,if_neg (by simp;omega),if_pos (by simp only [cutOk,Option.getD_none,Option.getD_some,List.length_map];omega),hcut,hM,zAb,hmp]
end Go.Proofs.YtdgdgfckcnjpfaaGreat.Abs
