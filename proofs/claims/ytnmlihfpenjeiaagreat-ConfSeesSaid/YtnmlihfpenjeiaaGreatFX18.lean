/- Plain facts: how a worker's samples bend a model (conf.Grad, and the document's): ConfGrads, ConfSees. Conditions: none. -/
import Derived.Test.YtnmlihfpenjeiaaGreatFX17
namespace Go.Proofs.YtnmlihfpenjeiaaGreat.Abs
open Go Go.RowKit Go.IntWalk
set_option linter.unusedVariables false
set_option linter.unusedSimpArgs false
set_option linter.unnecessarySimpa false
set_option maxRecDepth 100000
theorem zZC {α:Type} [Inhabited α] {l:List α} {i:Int} (h:0≤i∧i<(l.length:Int)):at' l i∈l:=by
 unfold at'
 rw [List.getD_eq_getElem?_getD,List.getElem?_eq_getElem (by omega)];simp
theorem zVE {n k:Nat} {p:List Int} (h:zMU n k p):∀y∈p,0≤y∧y<(n:Int):=fun y hy=>by
 obtain ⟨i,hi,rfl⟩:=List.mem_iff_getElem.1 hy
 have:=h.2.1 i (by have:=h.1;omega)
 rw [zD4,List.getD_eq_getElem?_getD,List.getElem?_eq_getElem hi] at this
 exact this
theorem zYg {c:zAl} {x p:List Int} {e:Int} (hp:∀y∈p,0≤y∧y<(c.F_L.length:Int)) (hl:p.length≤1000):∀(t:List Int) (k:Nat) (acc:List zAa),p.drop k=t→acc.length=k→zDH c x (p,e) (k:Int) acc=some (acc++t.map (at' c.F_L))∧zDo c x (p,e) (k:Int) acc=some (acc++t.map (at' c.F_L))
 | [],k,acc,h,ha=>by rw [zDH,zDo,if_neg (zAP h),if_neg (zAP h)];simp
 | y::t,k,acc,h,ha=>by
  have g:=zAw h
  have hy:=hp y (by
   have:y∈p.drop k:=by rw [h];simp
   exact List.mem_of_mem_drop this)
  have hr:room 32 (acc++[at' c.F_L y]).length:=zEk (by omega) (by simp;omega)
  obtain ⟨a,b⟩:=zYg (x:=x) (e:=e) hp hl t (k+1) (acc++[at' c.F_L y]) g.2.2 (by simp [ha])
  refine ⟨?_, ?_⟩
  ·rw [zDH]
   simp only
   rw [if_pos g.1,if_pos ⟨by omega,g.1⟩,g.2.1,if_pos hy,if_pos hr,zAb,zAJ (by omega),a];simp
  ·rw [zDo]
   simp only
   rw [if_pos g.1,if_pos ⟨by omega,g.1⟩,g.2.1,if_pos hy,if_pos hr,zAb,zAJ (by omega),b];simp
theorem zXi {c:zAl} {x:List Int} (hl:c.F_L.length≤4398046510976) (w s:Int) (hx:I64s x) (hs:∀q∈c.F_L,sI q) (hC:J64 c.F_Clip):∃g:List Int×Int,zG3 c w s x=some g∧zGK c w s x=some g∧(g.2≠0→g.1=[])∧(g.2=0→zLQ c w s∧(g.1.length:Int)=dimN c.F_M∧∀y∈g.1,-c.F_Clip≤y∧y≤c.F_Clip):=by
 obtain ⟨r,r1,r2,r3⟩:=zXK c (by omega) w s
 by_cases h:zLQ c w s
 ·obtain ⟨p,p1,p2,p3⟩:=zUT (by omega) h
  rw [p1] at r1
  have er:r=(p,0):=(Option.some.inj r1).symm
  subst er
  have hco:=h.1.2
  have hB:=hco.2.2.2.1
  have hm:=zVE p3
  obtain ⟨l1,l2⟩:=zYg (x:=x) (e:=0) hm (by have:=p3.1;omega) p 0 [] rfl rfl
  rw [show ((0:Nat):Int)=0 from rfl,List.nil_append] at l1 l2
  have hin:∀q∈p.map (at' c.F_L),q∈c.F_L:=fun q hq=>by
   obtain ⟨y,hy,rfl⟩:=List.mem_map.1 hq
   exact zZC (hm y hy)
  have hfit:fitL c.F_M (p.map (at' c.F_L)):=⟨fun q hq=>hco.2.2.2.2 q (hin q hq),by rw [List.length_map,p3.1];omega,fun q hq=>hs q (hin q hq)⟩
  have hcl:0≤c.F_Clip∧J64 c.F_Clip:=⟨hco.2.2.1.2.2.2.2,hC⟩
  obtain ⟨c1,c2⟩:=zXu (w:=x) (c:=c.F_Clip) hco.1 hx hfit hcl
  refine ⟨zLi c.F_M x c.F_Clip (p.map (at' c.F_L)), ?_, ?_, ?_, ?_⟩
  ·rw [zG3,p1,zAb,if_neg (by simp)]
   simp only
   rw [if_pos ⟨by omega,by omega,by have:=p3.1;omega,by have:=p3.1;omega⟩,zAb]
   have e0:List.replicate (Int.toNat 0) (⟨[],0⟩:zAa)=[]:=rfl
   rw [e0,l1,zAb,c1];rfl
  ·rw [zGK,r2,zAb,if_neg (by simp),l2,zAb,c2];rfl
  ·intro q;unfold zLi at q⊢
   by_cases g:(zDX c.F_M x (p.map (at' c.F_L))).2≠0
   ·rw [if_pos g]
   ·rw [if_neg g] at q;exact absurd rfl q
  ·intro q;unfold zLi at q⊢
   by_cases g:(zDX c.F_M x (p.map (at' c.F_L))).2≠0
   ·rw [if_pos g] at q;exact absurd q g
   ·rw [if_neg g]
    have hd:=(zQ2 (w:=x) hco.1 hfit).2.2 (by omega)
    refine ⟨h,by simp only [List.length_map];exact hd,fun y hy=> ?_⟩
    obtain ⟨z,hz,rfl⟩:=List.mem_map.1 hy
    exact zXQ hcl.1
 ·have e:=(zNj (c:=c) (by omega) w s).2 h
  rw [e] at r1
  have er:r=([],1):=(Option.some.inj r1).symm
  subst er
  exact ⟨([],1),by rw [zG3,e,zAb,if_pos (by decide)],by rw [zGK,r2,zAb,if_pos (by decide)],fun _=>rfl,fun q=>by simp at q⟩
theorem zYL {α:Type} [Inhabited α] {x:List α} {a i:Nat} {v:α} (ha:a<x.length):at' (x.set a v) (i:Int)=if a=i then v else at' x (i:Int):=by
 rw [zD4,zD4,List.getD_eq_getElem?_getD,List.getD_eq_getElem?_getD,List.getElem?_set]
 by_cases h:a=i
 ·rw [if_pos h,if_pos (by omega),if_pos h];rfl
 ·rw [if_neg h,if_neg h]
theorem zUw {c:zAl} {w s:Int} {x p:List Int} {b:Bool} {e:Int} {n m:Nat} (hp:zMU n m p) (hm:m≤1000):∀(j k:Nat) (y:List Bool),k+j=m→y.length=n→(∀i:Nat,k≤i→i<m→at' y (at' p (i:Int))=false)→zBt c w s x b (p,e) (k:Int) y=some (.inr ())
 | 0,k,y,h,hy,hi=>by rw [zBt,if_neg (by simp only;have:=hp.1;omega)]
 | j+1,k,y,h,hy,hi=>by
  have hl:=hp.1
  have hk:=hp.2.1 k (by omega)
  have hf:=hi k (by omega) (by omega)
  obtain ⟨a,ha⟩:∃a:Nat,at' p (k:Int)=(a:Int):=⟨(at' p (k:Int)).toNat,by omega⟩
  have hb:0≤(a:Int)∧(a:Int)<(y.length:Int):=by omega
  rw [ha] at hf
  rw [zBt]
  simp only
  rw [if_pos (by omega),if_pos ⟨by omega,by omega⟩,ha,orB,if_neg (by simp only [Bool.or_eq_true,decide_eq_true_eq];omega),if_pos hb,hf,zAb,if_neg (by simp),if_pos hb,zAb,Int.toNat_natCast,zAJ (by omega)]
  refine zUw hp hm j (k+1) (y.set a true) (by omega) (by simpa using hy) (fun i h1 h2=> ?_)
  have h3:=hp.2.1 i h2
  obtain ⟨d,hd⟩:∃d:Nat,at' p (i:Int)=(d:Int):=⟨(at' p (i:Int)).toNat,by omega⟩
  have hne:a≠d:=fun q=>by
   have:=hp.2.2 k i (by omega) h2 (by rw [ha,hd,q])
   omega
  have h4:=hi i (by omega) h2
  rw [hd] at h4⊢
  rw [zYL (by omega),if_neg hne,h4]
theorem zUu {c:zAl} {b:Bool} {g:List Int} {e:Int} {r:Int×Int} (hC:0≤c.F_Clip∧J64 c.F_Clip) (hg:∀y∈g,-c.F_Clip≤y∧y≤c.F_Clip) (hl:g.length≤1000):∀(t:List Int) (k:Nat),g.drop k=t→zBs c b (g,e) r (k:Int)=some (.inr ())
 | [],k,h=>by rw [zBs,if_neg (zAP h)]
 | y::t,k,h=>by
  have q:=zAw h
  have hw:IntKind.i64.wrap (0-c.F_Clip)= -c.F_Clip:=by have:=hC.2;unfold J64 at this;rw [i64_in _ (by omega)];omega
  have hy:=hg y (by
   have:y∈g.drop k:=by rw [h];simp
   exact List.mem_of_mem_drop this)
  rw [zBs,if_pos q.1,if_pos ⟨by omega,q.1⟩,q.2.1,hw,orB,if_neg (by simp only [Bool.or_eq_true,decide_eq_true_eq];omega),zAJ (by omega)]
  exact zUu hC hg hl t (k+1) q.2.2
theorem zRB (c:zAl) (w s:Int) (x:List Int) (hl:c.F_L.length≤4398046510976) (hx:I64s x) (hs:∀q∈c.F_L,sI q) (hC:J64 c.F_Clip):zFb c w s x=some true:=by
 obtain ⟨q,f1,f2⟩:=zXx c (by omega)
 rw [zFb,zV2,zAb,if_neg (by simp),f1,zAb,orB]
 by_cases h5:(decide (q=false)||decide ((x.length:Int)>500))=true
 ·rw [if_pos h5]
 ·rw [if_neg h5]
  by_cases h:zLQ c w s
  ·obtain ⟨p,p1,p2,p3⟩:=zUT (by omega) h
   have hco:=h.1.2
   have hB:=hco.2.2.2.1
   have hlp:=p3.1
   have l0:=zUw (c:=c) (w:=w) (s:=s) (x:=x) (b:=true) (e:=0) p3 (by omega) c.F_Batch.toNat 0 (List.replicate c.F_L.length false) (by omega) (by simp) (fun i _ hi=>by
    have:=p3.2.1 i hi
    obtain ⟨a,ha⟩:∃a:Nat,at' p (i:Int)=(a:Int):=⟨(at' p (i:Int)).toNat,by omega⟩
    rw [ha,zD4,List.getD_eq_getElem?_getD,List.getElem?_replicate];split<;>rfl)
   rw [show ((0:Nat):Int)=0 from rfl] at l0
   have hco2:zLQ (⟨64,c.F_M,c.F_H,c.F_Warm,0,c.F_Mom,0,c.F_Batch,c.F_Seed,c.F_L⟩:zAl) w s:=by
    obtain ⟨⟨s1,s2⟩,s3,s4⟩:=h
    obtain ⟨k1,k2,⟨k3,k4,k5,k6,k7⟩,k8,k9⟩:=s2
    have ho:=zZh k1
    refine ⟨⟨s1,k1,k2,⟨⟨by simp,by simp⟩,k4,⟨by simp,by simp only;omega⟩,k6,by simp⟩,k8,k9⟩,s3,by simp only;omega⟩
   have p4:=(zNj (c:=(⟨64,c.F_M,c.F_H,c.F_Warm,0,c.F_Mom,0,c.F_Batch,c.F_Seed,c.F_L⟩:zAl)) (by simp only;omega) w s).1 hco2
   simp only at p4
   rw [p2,zAb] at p4
   obtain ⟨g,g1,g2,g3,g4⟩:=zXi hl w s hx hs hC
   rw [p1,zAb,if_neg (by simp),if_pos ⟨by omega,by omega,by omega,by omega⟩,zAb,Int.toNat_natCast,l0,zAb]
   simp only
   rw [p4,zAb]
   simp only
   rw [orB,if_neg (by simp;omega),zSQ _ _ (by omega),zAb,zAb,if_neg (by simp),g1,zAb]
   by_cases e:g.2≠0
   ·rw [if_pos e,if_pos trivial,zAb,g3 e];rfl
   ·obtain ⟨_,b1,b2⟩:=g4 (by omega)
    have hd:=zNc hco.1
    have l1:=zUu (c:=c) (b:=true) (e:=g.2) (r:=(dimN c.F_M,0)) ⟨hco.2.2.1.2.2.2.2,hC⟩ b2 (by omega) g.1 0 rfl
    rw [show ((0:Nat):Int)=0 from rfl] at l1
    rw [if_neg e,zUN,if_pos hco.1,zAb,l1,zAb]
    simp only
    rw [if_pos trivial,zAb,if_pos (by simp),zAb,b1];simp
  ·rw [(zNj (c:=c) (by omega) w s).2 h,zAb,if_pos (by decide),if_pos rfl,zAb];rfl
end Go.Proofs.YtnmlihfpenjeiaaGreat.Abs
