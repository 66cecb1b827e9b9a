/- Plain facts: the document's order, what it picks, and presses. Conditions: none. -/
import Derived.Test.YtdgdgfckcnjpfaaGreatPH7
namespace Go.Proofs.YtdgdgfckcnjpfaaGreat.Abs
open Go Go.RowKit Go.IntWalk
set_option linter.unusedVariables false
set_option linter.unusedSimpArgs false
set_option linter.unusedSectionVars false
set_option maxRecDepth 100000
theorem zT2:∀(t:List Int) (k:Nat),oneF k t=(List.range t.length).map fun i=>⟨((k+i:Nat):Int),zDs (t.getD i 0)⟩
 | [],k=>rfl
 | x::t,k=>by
  rw [oneF,zT2 t (k+1),List.length_cons,List.range_succ_eq_map,List.map_cons,List.map_map]
  simp only [Nat.add_zero,List.getD_cons_zero,List.cons.injEq,true_and]
  apply List.map_congr_left
  intro i _
  simp only [Function.comp_apply,Nat.succ_eq_add_one,List.getD_cons_succ]
  rw [show k+1+i=k+(i+1) by omega]
theorem zAaz (v:List Int):zDu v=(List.range v.length).map (zHq v):=by
 rw [zDu,zT2]
 apply List.map_congr_left
 intro i _
 rw [Nat.zero_add];rfl
theorem zAam (v:List Int) (x:zAa):rank v x=(List.range v.length).countP fun k=>decide (bh x (zHq v k)):=by
 rw [rank,zAaz,List.countP_map];rfl
theorem zAaD (v:List Int) (hi:I64s v) (hv:v.length≤4096) (i:Nat) (hiv:i<v.length) (o:List Int):∀(m k c:Nat),k+m=v.length→c≤k→
  zBh v (i:Int) o (k:Int) (c:Int)=some ((c+(List.range' k m).countP (fun q=>decide (bh (zHq v i) (zHq v q))):Nat):Int)
 | 0,k,c,hk,hc=>by
  rw [zBh,if_neg (by omega)];simp
 | m+1,k,c,hk,hc=>by
  rw [zBh,if_pos (by omega),zAdf hi (by omega) hiv,zAb,zAx (by omega),List.range'_succ,List.countP_cons]
  by_cases hb:bh (zHq v i) (zHq v k)
  ·rw [if_pos (by simp [hb]),zAx (by omega),zAaD v hi hv i hiv o m (k+1) (c+1) (by omega) (by omega),if_pos (by simp [hb])]
   congr 2;omega
  ·rw [if_neg (by simp [hb]),zAaD v hi hv i hiv o m (k+1) c (by omega) (by omega),if_neg (by simp [hb])]
   simp
theorem zO8 (v:List Int):(zBe v).length=v.length:=by rw [(zGz v).length_eq];exact zLz 0 v
theorem zSn (v:List Int) (j:Nat) (hj:j<(zBe v).length):rank v ((zBe v)[j])=j:=by
 have hpw:=zWh v
 rw [rank,←(zGz v).countP_eq]
 have hs:zBe v=(zBe v).take j++(zBe v)[j]::(zBe v).drop (j+1):=by
  rw [←List.drop_eq_getElem_cons hj,List.take_append_drop]
 generalize hx:(zBe v)[j]=x at*
 rw [hs,List.pairwise_append,List.pairwise_cons] at hpw
 rw [hs,List.countP_append,List.countP_cons,if_neg (by simp [zLB])]
 have h1:((zBe v).take j).countP (fun y=>decide (bh x y))=((zBe v).take j).length:=List.countP_eq_length.2 fun y hy=>by simpa using hpw.2.2 y hy x (by simp)
 have h2:((zBe v).drop (j+1)).countP (fun y=>decide (bh x y))=0:=List.countP_eq_zero.2 fun y hy=>by
  have:=hpw.2.1.1 y hy
  simpa using zLt this
 rw [h1,h2,List.length_take];omega
theorem zAdn (v:List Int) (hi:I64s v) (hv:v.length≤4096):∀(m i:Nat) (o:List Int),i+m=v.length→o.length=v.length→(∀j (hj:j<(zBe v).length),(zBe v)[j].F_place<(i:Int)→o.getD j 0=(zBe v)[j].F_place)→
  zBD v (i:Int) o=some ((zBe v).map zAa.F_place)
 | 0,i,o,hm,ho,h=>by
  rw [zBD,if_neg (by omega)]
  congr 1
  have hl:=zO8 v
  apply List.ext_getElem (by rw [List.length_map];omega)
  intro j h1 h2
  have hj:j<(zBe v).length:=by omega
  obtain ⟨q,hq,e⟩:=zSX (List.getElem_mem hj)
  have:=h j hj (by rw [e];show (q:Int)<i;omega)
  rw [List.getD_eq_getElem?_getD,List.getElem?_eq_getElem h1] at this
  simpa using this
 | m+1,i,o,hm,ho,h=>by
  have hl:=zO8 v
  have hl1:=zAaD v hi hv i (by omega) o v.length 0 0 (by omega) (Nat.le_refl _)
  rw [show ((0:Nat):Int)=0 from rfl,Nat.zero_add,←List.range_eq_range',←zAam] at hl1
  obtain ⟨j,hj,e⟩:=List.getElem_of_mem ((zGz v).mem_iff.2 (zAbl (v:=v) (i:=i) (by omega)))
  have hr:rank v (zHq v i)=j:=by rw [←e];exact zSn v j hj
  rw [hr] at hl1
  rw [zBD,if_pos (by omega),hl1,zAb,if_pos ⟨by omega,by omega⟩,zAx (by omega),Int.toNat_natCast]
  refine zAdn v hi hv m (i+1) _ (by omega) (by simpa using ho) fun q hq hp=> ?_
  by_cases hqj:q=j
  ·subst hqj
   rw [List.getD_eq_getElem?_getD,List.getElem?_set_self (by omega),e];rfl
  ·have hne:(zBe v)[q].F_place≠(i:Int):=by
    intro hpe
    obtain ⟨a,ha,ea⟩:=zSX (List.getElem_mem hq)
    rw [ea] at hpe
    have:a=i:=by have:(a:Int)=i:=hpe;omega
    subst this
    have hr2:=zSn v q hq
    rw [ea,hr] at hr2
    omega
   rw [List.getD_eq_getElem?_getD,List.getElem?_set_ne (fun e=>hqj e.symm),←List.getD_eq_getElem?_getD]
   exact h q hq (by push_cast at hp;omega)
theorem zSG (v:List Int) (hi:I64s v) (hv:v.length≤4096):zDI v=some ((zBe v).map zAa.F_place,0):=by
 have h:=zAdn v hi hv v.length 0 (List.replicate v.length 0) (by omega) (by simp) fun j hj hp=>by
  obtain ⟨a,ha,ea⟩:=zSX (List.getElem_mem hj)
  rw [ea] at hp
  have:(a:Int)<0:=hp
  omega
 rw [show ((0:Nat):Int)=0 from rfl] at h
 rw [zDI,if_neg (by omega),if_pos (by omega),zAb,Int.toNat_natCast,h,zAb]
end Go.Proofs.YtdgdgfckcnjpfaaGreat.Abs
