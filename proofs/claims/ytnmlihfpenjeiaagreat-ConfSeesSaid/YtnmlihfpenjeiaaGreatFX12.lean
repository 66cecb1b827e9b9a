/- Plain facts: how lines are to be bent by many samples (soft, and the document's). Conditions: none. -/
import Derived.Test.YtnmlihfpenjeiaaGreatFX11
namespace Go.Proofs.YtnmlihfpenjeiaaGreat.Abs
open Go Go.RowKit Go.IntWalk
set_option linter.unusedVariables false
set_option linter.unusedSimpArgs false
set_option linter.unnecessarySimpa false
set_option maxRecDepth 100000
theorem zTo {o:Int} {w:List Int} {f:Int} {l:List zAa} (hl:l.length≤64) {e:Int} (he:e≠0):∀(t:List zAa) (k:Nat) (x:List (List Int)),l.drop k=t→x.length=k→∃r,zBw o w f l (k:Int) x e=some (r,e)
 | [],k,x,h,hx=>⟨x,by rw [zBw,if_neg (zAP h)]⟩
 | s::t,k,x,h,hx=>by
  have g:=zAw h
  rw [zBw,if_pos g.1,if_pos ⟨by omega,g.1⟩,if_neg he,zAb]
  simp only
  rw [if_neg he,if_pos (zEk (by omega) (by simp;omega)),zAJ (by omega)]
  exact zTo hl he t (k+1) (x++[[]]) g.2.2 (by simp [hx])
theorem zYe {o n:Nat} {w:List Int} {f:Int} {l:List zAa} (ho:2≤o∧o≤8) (hn:2≤n∧n≤17) (hw:w.length=o*n) (hI:I64s w) (hf:0≤f∧f≤30) (hl:zJ0 ((n:Int)-1) (o:Int) l) (hs:∀s∈l,sI s):∀(t:List zAa) (k:Nat) (x:List (List Int)),l.drop k=t→x.length=k→
  ∃r,zBw (o:Int) w f l (k:Int) x 0=some (r,(mapE (zBu n o w f) t).2)∧((mapE (zBu n o w f) t).2=0→r=x++(mapE (zBu n o w f) t).1)
 | [],k,x,h,hx=>⟨x,by rw [zBw,if_neg (zAP h)];rfl,fun _=>by simp [mapE]⟩
 | s::t,k,x,h,hx=>by
  have g:=zAw h
  have hm:=zBQ h
  have h64:=hl.1.2
  have hxl:=hl.1.1 s hm
  have hof:=(zUq (f:=f) ho hn hw hI (hs s hm).1 (by omega) hf (hl.2 s hm)).1
  have hwi:IntKind.i64.wrap ((k:Int)+1)=((k+1:Nat):Int):=zAJ (by omega)
  by_cases h1:(zCF n o w f s).2=0
  ·have hb:=zXX (f:=f) (s:=s) (off:=(zCF n o w f s).1) (hs s hm).1 zQG hf (by omega) (by have:=(@zMu n o w f s).1;omega)
   have e1:zBu n o w f s=zLW (mapE (zAO f s.F_X) (zCF n o w f s).1):=by rw [zBu,if_neg (fun q=>q h1)]
   rw [←e1] at hb
   rw [zBw,if_pos g.1,if_pos ⟨by omega,g.1⟩,if_pos rfl,g.2.1,hof,zAb,zAb]
   simp only
   rw [if_pos h1,hb,zAb,if_pos (zEk (by omega) (by simp;omega)),hwi,mapE]
   by_cases h2:(zBu n o w f s).2≠0
   ·obtain ⟨r,r1⟩:=zTo (o:=(o:Int)) (w:=w) (f:=f) (by omega) h2 t (k+1) (x++[(zBu n o w f s).1]) g.2.2 (by simp [hx])
    rw [if_pos h2,r1]
    exact ⟨r,rfl,fun q=>absurd q h2⟩
   ·have h3:(zBu n o w f s).2=0:=by omega
    obtain ⟨r,r1,r2⟩:=zYe ho hn hw hI hf hl hs t (k+1) (x++[(zBu n o w f s).1]) g.2.2 (by simp [hx])
    rw [if_neg h2,h3,r1]
    refine ⟨r, ?_, ?_⟩
    ·by_cases h4:(mapE (zBu n o w f) t).2≠0
     ·rw [if_pos h4]
     ·rw [if_neg h4];simp only;rw [show (mapE (zBu n o w f) t).2=0 by omega]
    ·intro h4
     have h5:(mapE (zBu n o w f) t).2=0:=by
      by_cases h6:(mapE (zBu n o w f) t).2=0
      ·exact h6
      ·rw [if_pos h6] at h4;exact h4
     rw [r2 h5,if_neg (by omega)];simp
  ·have e1:zBu n o w f s=([],(zCF n o w f s).2):=by rw [zBu,if_pos h1]
   obtain ⟨r,r1⟩:=zTo (o:=(o:Int)) (w:=w) (f:=f) (l:=l) (by omega) h1 t (k+1) (x++[[]]) g.2.2 (by simp [hx])
   rw [zBw,if_pos g.1,if_pos ⟨by omega,g.1⟩,if_pos rfl,g.2.1,hof,zAb,zAb]
   simp only
   rw [if_neg h1,if_pos (zEk (by omega) (by simp;omega)),hwi,r1,mapE,e1]
   simp only
   rw [if_pos h1]
   exact ⟨r,rfl,fun q=>absurd q h1⟩
theorem zPd {o n:Nat} {w:List Int} {f:Int} {l:List zAa} {s:zAa} {kk:Int} {xx:List (List Int)} {off:List Int} {e:Int} (hat:at' l kk=s) (hx:I64s s.F_X) (ho:I64s off) (hf:0≤f∧f≤30) (hxl:s.F_X.length≤100) (hol:off.length≤100):∀(t:List Int) (k:Nat) (pre:List Int),off.drop k=t→pre.length≤k*101→
  zDq (o:Int) w f l kk xx (off,e) (k:Int) pre=some (endC pre (mapE (zAO f s.F_X) t))
 | [],k,pre,h,hp=>by rw [zDq,if_neg (zAP h)];simp [endC,mapE]
 | x::t,k,pre,h,hp=>by
  have g:=zAw h
  have hl:= @zGk s.F_X x f
  rw [zDq,if_pos g.1,if_pos ⟨by omega,g.1⟩,g.2.1,hat,zJt hx (zEg ho h) hf (by omega),zAb,zMG]
  by_cases h1:(mapE (fun y=>mulP y x f) s.F_X).2≠0
  ·have e1:zAO f s.F_X x=([],(mapE (fun y=>mulP y x f) s.F_X).2):=by rw [zAO,if_pos h1]
   rw [if_pos h1,e1,if_pos h1]
  ·have e1:zAO f s.F_X x=((mapE (fun y=>mulP y x f) s.F_X).1++[x],0):=by rw [zAO,if_neg h1]
   rw [if_neg h1,if_pos (zB2 (by simp;omega)),if_pos (zB2 (by simp;omega)),zAb,e1,if_neg (by simp),zAJ (by omega),List.append_assoc]
   exact zPd (o:=o) (n:=n) hat hx ho hf hxl hol t (k+1) _ g.2.2 (by simp;omega)
theorem zV1 {n:Int} {l:List (List Int)} (h:(zFw n l).2≠0):(zFw n l).1=[]:=by
 unfold zFw at h⊢
 split
 ·rfl
 ·rename_i g;rw [if_neg g] at h
  split
  ·rfl
  ·rename_i g2;rw [if_neg g2] at h;exact zCv _ _ h
theorem zYn {n:Int} {l:List (List Int)}:I64s (zFw n l).1:=by
 unfold zFw
 split
 ·intro y hy;cases hy
 ·split
  ·intro y hy;cases hy
  ·exact zIM fun x=>zVT _ _ _
theorem zWk {n:Int} {l:List (List Int)} {m:Nat} (hl:l≠[]) (h:∀v∈l,v.length=m) (h0:(zFw n l).2=0):(zFw n l).1.length=m:=by
 unfold zFw at h0⊢
 by_cases g:n<1
 ·rw [if_pos g] at h0;simp at h0
 ·rw [if_neg g] at h0⊢
  by_cases g2:(sumP l).2≠0
  ·rw [if_pos g2] at h0;exact absurd h0 g2
  ·rw [if_neg g2] at h0⊢
   rw [zB6 _ _ h0]
   cases l with
   | nil=>exact absurd rfl hl
   | cons v l=>rw [zTz.2 (by omega),h v (by simp)]
theorem zS7 {o n:Nat} {w:List Int} {f:Int} {l:List zAa} (ho:2≤o∧o≤8) (hn:2≤n∧n≤17) (hw:w.length=o*n) (hI:I64s w) (hf:0≤f∧f≤30) (hl:zJ0 ((n:Int)-1) (o:Int) l) (hs:∀s∈l,sI s):
  zIi (o:Int) w f l=some (zFB (zBu n o w f) l)∧zGO (o:Int) w f l=some (zFB (zBu n o w f) l):=by
 have hb:=zGf ho.2 hn.2
 have h64:=hl.1.2
 have h0:(at' (zAE n o w) 0).length=n:=zKE (by omega) (by omega)
 have hlen:(zAE n o w).length=o:=zDA _ _ _
 have hone:∀s∈l,I64s (zBu n o w f s).1∧((zBu n o w f s).2=0→(zBu n o w f s).1.length=o*n):=fun s hm=>by
  have hxl:=hl.1.1 s hm
  have:= @zOm n o w f s (by omega)
  exact ⟨this.1,this.2.1⟩
 obtain ⟨m1,m2⟩:=zUF (one:=zBu n o w f) h64.2 (by omega) hone
 have hlw:(w.length:Int)=((n:Int)-1+1)*(o:Int):=by rw [hw,Int.sub_add_cancel,Nat.mul_comm];simp
 rw [zFB]
 refine ⟨?_, ?_⟩
 ·obtain ⟨r,r1,r2⟩:=zYe ho hn hw hI hf hl hs l 0 [] rfl rfl
  rw [show ((0:Nat):Int)=0 from rfl] at r1
  rw [zIi,zKH,zSB ho hn hw,zAb,if_neg (by simp)]
  simp only
  rw [if_pos ⟨by omega,by omega⟩,h0,i64_in _ (by omega),zR3 (by omega) (by omega) hl,if_pos hlw,zAb,zAb,r1,zAb]
  simp only
  by_cases h:(mapE (zBu n o w f) l).2≠0
  ·rw [if_pos h,if_pos h]
  ·rw [if_neg h,if_neg h,r2 (by omega),List.nil_append,m1,zAb]
 ·have h:=appE (fun k out=>zBY (o:Int) w f l k out) (zBu n o w f) l
   (fun k out hk=>by
    show zBY _ _ _ _ _ _=_
    rw [zBY,if_neg (by omega)])
   (fun k out s t hx hol=>by
    have g:=zAw hx
    have hm:=zBQ hx
    have hxl:=hl.1.1 s hm
    have hof:=(zUq (f:=f) ho hn hw hI (hs s hm).1 (by omega) hf (hl.2 s hm)).2
    show zBY _ _ _ _ _ _=_
    rw [zBY,if_pos g.1,if_pos ⟨by omega,g.1⟩,g.2.1,hof,zAb]
    by_cases h1:(zCF n o w f s).2≠0
    ·have e1:zBu n o w f s=([],(zCF n o w f s).2):=by rw [zBu,if_pos h1]
     rw [if_pos h1,e1,if_pos h1]
    ·have e1:zBu n o w f s=zLW (mapE (zAO f s.F_X) (zCF n o w f s).1):=by rw [zBu,if_neg h1]
     have hbd:=zPd (o:=o) (n:=n) (w:=w) (xx:=out) (e:=(zCF n o w f s).2) g.2.1 (hs s hm).1 (zQG (n:=n) (o:=o) (w:=w) (f:=f) (s:=s)) hf (by omega) (by have:=(@zMu n o w f s).1;omega) _ 0 [] rfl (by simp)
     rw [show ((0:Nat):Int)=0 from rfl,List.drop_zero] at hbd
     rw [if_neg h1,hbd,zAb,endC,e1,zLW]
     by_cases h2:(mapE (zAO f s.F_X) (zCF n o w f s).1).2≠0
     ·rw [if_pos h2,if_pos h2,if_pos h2]
     ·rw [if_neg h2,if_neg h2,if_neg (by simp)]
      simp only
      rw [if_pos (zEk (by omega) (by simp;omega)),zAJ (by omega),List.nil_append])
   l 0 [] rfl rfl
  rw [show ((0:Nat):Int)=0 from rfl] at h
  rw [zGO,zKb,zOX ho hn hw,zAb,if_neg (by simp)]
  simp only
  rw [if_pos ⟨by omega,by omega⟩,h0,i64_in _ (by omega),zUY (by omega) (by omega) hl,if_pos hlw,zAb,zAb,if_neg (by simp),h,zAb,endE]
  by_cases h:(mapE (zBu n o w f) l).2≠0
  ·rw [if_pos h,if_pos h]
  ·rw [if_neg h,if_neg h]
   simp only
   rw [List.nil_append,m2,zAb]
end Go.Proofs.YtnmlihfpenjeiaaGreat.Abs
