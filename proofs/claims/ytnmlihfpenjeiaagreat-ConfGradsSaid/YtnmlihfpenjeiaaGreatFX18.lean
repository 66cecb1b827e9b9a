/- Plain facts: how a worker's samples bend a model (conf.Grad, and the document's): ConfGrads, ConfSees. Conditions: none. -/
import Derived.Test.YtnmlihfpenjeiaaGreatFX17
namespace Go.Proofs.YtnmlihfpenjeiaaGreat.Abs
open Go Go.RowKit Go.IntWalk
set_option linter.unusedVariables false
set_option linter.unusedSimpArgs false
set_option linter.unnecessarySimpa false
set_option maxRecDepth 100000
theorem zAcK {α:Type} [Inhabited α] {l:List α} {i:Int} (h:0≤i∧i<(l.length:Int)):at' l i∈l:=by
 unfold at'
 rw [List.getD_eq_getElem?_getD,List.getElem?_eq_getElem (by omega)];simp
theorem zZk {n k:Nat} {p:List Int} (h:zS1 n k p):∀y∈p,0≤y∧y<(n:Int):=fun y hy=>by
 obtain ⟨i,hi,rfl⟩:=List.mem_iff_getElem.1 hy
 have:=h.2.1 i (by have:=h.1;omega)
 rw [zFJ,List.getD_eq_getElem?_getD,List.getElem?_eq_getElem hi] at this
 exact this
theorem zAbH {c:zAq} {x p:List Int} {e:Int} (hp:∀y∈p,0≤y∧y<(c.F_L.length:Int)) (hl:p.length≤1000):∀(t:List Int) (k:Nat) (acc:List zAa),p.drop k=t→acc.length=k→zDM c x (p,e) (k:Int) acc=some (acc++t.map (at' c.F_L))∧zCb c x (p,e) (k:Int) acc=some (acc++t.map (at' c.F_L))
 | [],k,acc,h,ha=>by rw [zDM,zCb,if_neg (zAT h),if_neg (zAT h)];simp
 | y::t,k,acc,h,ha=>by
  have g:=zAw h
  have hy:=hp y (by
   have:y∈p.drop k:=by rw [h];simp
   exact List.mem_of_mem_drop this)
  have hr:room 32 (acc++[at' c.F_L y]).length:=zEy (by omega) (by simp;omega)
  obtain ⟨a,b⟩:=zAbH (x:=x) (e:=e) hp hl t (k+1) (acc++[at' c.F_L y]) g.2.2 (by simp [ha])
  refine ⟨?_, ?_⟩
  ·rw [zDM]
   simp only
   rw [if_pos g.1,if_pos ⟨by omega,g.1⟩,g.2.1,if_pos hy,if_pos hr,zAb,zAO (by omega),a];simp
  ·rw [zCb]
   simp only
   rw [if_pos g.1,if_pos ⟨by omega,g.1⟩,g.2.1,if_pos hy,if_pos hr,zAb,zAO (by omega),b];simp
theorem zAaS {c:zAq} {x:List Int} (hl:c.F_L.length≤4398046510976) (w s:Int) (hx:I64s x) (hs:∀q∈c.F_L,sI q) (hC:J64 c.F_Clip):∃g:List Int×Int,zHL c w s x=some g∧zEp c w s x=some g∧(g.2≠0→g.1=[])∧(g.2=0→zQo c w s∧(g.1.length:Int)=dimN c.F_M∧∀y∈g.1,-c.F_Clip≤y∧y≤c.F_Clip):=by
 obtain ⟨r,r1,r2,r3⟩:=zAaY c (by omega) w s
 by_cases h:zQo c w s
 ·obtain ⟨p,p1,p2,p3⟩:=zAb7 (by omega) h
  rw [p1] at r1
  have er:r=(p,0):=(Option.some.inj r1).symm
  subst er
  have hco:=h.1.2
  have hB:=hco.2.2.2.1
  have hm:=zZk p3
  obtain ⟨l1,l2⟩:=zAbH (x:=x) (e:=0) hm (by have:=p3.1;omega) p 0 [] rfl rfl
  rw [show ((0:Nat):Int)=0 from rfl,List.nil_append] at l1 l2
  have hin:∀q∈p.map (at' c.F_L),q∈c.F_L:=fun q hq=>by
   obtain ⟨y,hy,rfl⟩:=List.mem_map.1 hq
   exact zAcK (hm y hy)
  have hfit:fitL c.F_M (p.map (at' c.F_L)):=⟨fun q hq=>hco.2.2.2.2 q (hin q hq),by rw [List.length_map,p3.1];omega,fun q hq=>hs q (hin q hq)⟩
  have hcl:0≤c.F_Clip∧J64 c.F_Clip:=⟨hco.2.2.1.2.2.2.2,hC⟩
  obtain ⟨c1,c2⟩:=zAbn (w:=x) (c:=c.F_Clip) hco.1 hx hfit hcl
  refine ⟨zMQ c.F_M x c.F_Clip (p.map (at' c.F_L)), ?_, ?_, ?_, ?_⟩
  ·rw [zHL,p1,zAb,if_neg (by simp)]
   simp only
   rw [if_pos ⟨by omega,by omega,by have:=p3.1;omega,by have:=p3.1;omega⟩,zAb]
   have e0:List.replicate (Int.toNat 0) (⟨[],0⟩:zAa)=[]:=rfl
   rw [e0,l1,zAb,c1];rfl
  ·rw [zEp,r2,zAb,if_neg (by simp),l2,zAb,c2];rfl
  ·intro q;unfold zMQ at q⊢
   by_cases g:(zD4 c.F_M x (p.map (at' c.F_L))).2≠0
   ·rw [if_pos g]
   ·rw [if_neg g] at q;exact absurd rfl q
  ·intro q;unfold zMQ at q⊢
   by_cases g:(zD4 c.F_M x (p.map (at' c.F_L))).2≠0
   ·rw [if_pos g] at q;exact absurd q g
   ·rw [if_neg g]
    have hd:=(zUx (w:=x) hco.1 hfit).2.2 (by omega)
    refine ⟨h,by simp only [List.length_map];exact hd,fun y hy=> ?_⟩
    obtain ⟨z,hz,rfl⟩:=List.mem_map.1 hy
    exact zAbt hcl.1
 ·have e:=(zXZ (c:=c) (by omega) w s).2 h
  rw [e] at r1
  have er:r=([],1):=(Option.some.inj r1).symm
  subst er
  exact ⟨([],1),by rw [zHL,e,zAb,if_pos (by decide)],by rw [zEp,r2,zAb,if_pos (by decide)],fun _=>rfl,fun q=>by simp at q⟩
theorem zUR (a b:List Int) (hb:a.length≤4611686018427387904):zEs a b=some (decide (a=b)):=by
 rw [zEs];exact zAds _ a b (fun k=>by rw [zDz]) hb
theorem glen {c:zAq} {w s:Int} {g:List Int×Int} (h1:g.2≠0→g.1=[]) (h2:g.2=0→zQo c w s∧(g.1.length:Int)=dimN c.F_M∧∀y∈g.1,-c.F_Clip≤y∧y≤c.F_Clip):g.1.length≤145:=by
 by_cases q:g.2=0
 ·obtain ⟨a,b,_⟩:=h2 q
  have:=zQy a.1.2.1
  omega
 ·rw [h1 q];simp
theorem zUf (c:zAq) (w s:Int) (x:List Int) (hl:c.F_L.length≤4398046510976) (hx:I64s x) (hxl:x.length≤4611686018427387904) (hs:∀q∈c.F_L,sI q) (hC:J64 c.F_Clip):zE7 c w s x=some true:=by
 obtain ⟨q,f1,f2⟩:=zAbk c (by omega)
 rw [zE7,zZT,zAb,if_neg (by simp),f1,zAb,orB]
 by_cases h5:(decide (q=false)||decide ((x.length:Int)>500))=true
 ·rw [if_pos h5]
 ·rw [if_neg h5]
  simp only [Bool.or_eq_true,decide_eq_true_eq] at h5
  obtain ⟨g,g1,g2,g3,g4⟩:=zAaS hl w s hx hs hC
  have:=glen g3 g4
  rw [if_pos (zB4 (by omega)),g1,zAb,g2,zAb,if_pos rfl,zUR _ _ (by omega),zAb,zAb,if_pos (by simp),zAb,if_pos (by simp),zUR _ _ (by omega),zAb,zAb]
  simp
end Go.Proofs.YtnmlihfpenjeiaaGreat.Abs
