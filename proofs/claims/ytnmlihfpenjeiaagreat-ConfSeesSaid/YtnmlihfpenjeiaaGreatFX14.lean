/- Plain facts: how two layers are to be bent (mlp, and the document's). Conditions: none. -/
import Derived.Test.YtnmlihfpenjeiaaGreatFX13
namespace Go.Proofs.YtnmlihfpenjeiaaGreat.Abs
open Go Go.RowKit Go.IntWalk
set_option linter.unusedVariables false
set_option linter.unusedSimpArgs false
set_option linter.unnecessarySimpa false
set_option maxRecDepth 100000
def zDV (n h:Nat) (w x:List Int) (f:Int):Int×Int:=if (hidP n h w x f).2≠0 then (0,(hidP n h w x f).2) else zBx (w.drop (h*n)) (hidP n h w x f).1 f
theorem zRN {n h:Nat} {w x:List Int} {f:Int}:J64 (zDV n h w x f).1:=by
 unfold zDV;split
 ·exact J0
 ·exact zLp _ _ _
theorem zM6 {w:List Int} (h:I64s w) (k:Nat):I64s (w.drop k):=fun y hy=>h y (List.mem_of_mem_drop hy)
theorem zTj {h n:Nat} {w x:List Int} {f:Int} (hh:1≤h∧h≤8) (hn:2≤n∧n≤17) (hw:w.length=h*n+h+1) (hI:I64s w) (hx:I64s x) (hxl:n=x.length+1) (hf:0≤f∧f≤30):
  zDr (netP n h w) x f=some (if (hidP n h w x f).2≠0 then [] else (hidP n h w x f).1,(zDV n h w x f).1,(zDV n h w x f).2)∧zEV (h:Int) w x f=some (zDV n h w x f):=by
 obtain ⟨h1,h2⟩:=zWT hh hn hw hI hx hxl hf
 rw [zDV]
 by_cases g:(hidP n h w x f).2≠0
 ·rw [zDr,zEV,h1,h2,zAb,zAb,if_pos g,if_pos g,if_pos g,if_pos g];exact ⟨rfl,rfl⟩
 ·have hl:=zLC (n:=n) (h:=h) (w:=w) (x:=x) (f:=f) (by omega)
  obtain ⟨t1,t2⟩:=zJb (f:=f) (zM6 hI (h*n)) (zSS (n:=n) (h:=h) (w:=w) (x:=x) (f:=f)) hf (by rw [List.length_drop];omega) (by omega)
  rw [zDr,zEV,h1,h2,zAb,zAb,if_neg g,if_neg g,if_neg g,if_neg g,zIs hh hn hw,zAb]
  simp only
  rw [t1,t2,zAb,zAb];exact ⟨rfl,rfl⟩
def zA5 (n h:Nat) (w:List Int) (f:Int) (s:zAa):Int×Int:=if (zDV n h w s.F_X f).2≠0 then (0,(zDV n h w s.F_X f).2) else ov ((zDV n h w s.F_X f).1-s.F_Y)
theorem zK6 {n h:Nat} {w:List Int} {f:Int} {s:zAa}:J64 (zA5 n h w f s).1:=by
 unfold zA5;split
 ·exact J0
 ·exact ov_J _
theorem zWU {h n:Nat} {w:List Int} {f:Int} {s:zAa} (hh:1≤h∧h≤8) (hn:2≤n∧n≤17) (hw:w.length=h*n+h+1) (hI:I64s w) (hs:sI s) (hxl:n=s.F_X.length+1) (hf:0≤f∧f≤30):zHm (h:Int) w s f=some (zA5 n h w f s):=by
 rw [zHm,(zTj hh hn hw hI hs.1 hxl hf).2,zAb,zA5,zLF zRN hs.2,zAb]
 split<;>rfl
def zB9 (f off:Int) (p:Int×Int):Int×Int:=if p.1>0 then mulP off p.2 f else (0,0)
def zBP (f:Int) (x:List Int) (off:Int) (p:Int×Int):List Int×Int:=if (zB9 f off p).2≠0 then ([],(zB9 f off p).2) else zAO f x (zB9 f off p).1
theorem zQk {f off:Int} {p:Int×Int}:J64 (zB9 f off p).1:=by
 unfold zB9;split
 ·exact zNa _ _ _
 ·exact J0
theorem zSY {f:Int} {x:List Int} {off:Int} {p:Int×Int}:I64s (zBP f x off p).1∧((zBP f x off p).2=0→(zBP f x off p).1.length=x.length+1):=by
 unfold zBP
 by_cases g:(zB9 f off p).2≠0
 ·rw [if_pos g];exact ⟨fun y hy=>(by cases hy),fun q=>absurd q g⟩
 ·rw [if_neg g];exact ⟨zOw zQk,zJa.2⟩
def mlp1 (n h:Nat) (w:List Int) (f:Int) (s:zAa):List Int×Int:=
 if (zA5 n h w f s).2≠0 then ([],(zA5 n h w f s).2)
 else if (mapE (zBP f s.F_X (zA5 n h w f s).1) (List.zip (hidP n h w s.F_X f).1 (w.drop (h*n)))).2≠0 then ([],(mapE (zBP f s.F_X (zA5 n h w f s).1) (List.zip (hidP n h w s.F_X f).1 (w.drop (h*n)))).2)
 else if (zAO f (hidP n h w s.F_X f).1 (zA5 n h w f s).1).2≠0 then ([],(zAO f (hidP n h w s.F_X f).1 (zA5 n h w f s).1).2)
 else ((mapE (zBP f s.F_X (zA5 n h w f s).1) (List.zip (hidP n h w s.F_X f).1 (w.drop (h*n)))).1.flatten++(zAO f (hidP n h w s.F_X f).1 (zA5 n h w f s).1).1,0)
theorem zQz {x:List Int} {a e f:Int} {g:List Int} (he:e≠0):zAN x a e f g=some (e,f,g):=by rw [zAN,if_neg he]
theorem zVY {x:List Int} {a f:Int} {g:List Int} (hx:I64s x) (ha:J64 a) (hf:0≤f∧f≤30) (hl:x.length≤100) (hg:g.length≤10000):∃g',zAN x a 0 f g=some ((zAO f x a).2,f,g')∧((zAO f x a).2=0→g'=g++(zAO f x a).1):=by
 have hsl:= @zGk x a f
 refine ⟨(g++(mapE (fun y=>mulP y a f) x).1)++[a], ?_, ?_⟩
 ·rw [zAN,if_pos rfl,zM3 hx ha hf (by omega),zAb,if_pos (zB2 (by simp;omega)),if_pos (zB2 (by simp;omega)),zAO]
  by_cases h:(mapE (fun y=>mulP y a f) x).2≠0
  ·rw [if_pos h]
  ·rw [if_neg h];simp only;rw [show (mapE (fun y=>mulP y a f) x).2=0 by omega]
 ·intro h
  unfold zAO at h⊢
  by_cases q:(mapE (fun y=>mulP y a f) x).2≠0
  ·rw [if_pos q] at h;exact absurd h q
  ·rw [if_neg q];simp
theorem zR0 {c:zBf} {s:zAa} {r1:List Int×Int×Int} {r2:Int×Int} {f e:Int} {g:List Int} (hl:r1.1.length≤100) (he:e≠0):∀(j k:Nat),k+j=r1.1.length→zAG c s r1 r2 (k:Int) e g f=some (e,g,f)
 | 0,k,h=>by rw [zAG,if_neg (by omega)]
 | j+1,k,h=>by
  rw [zAG,if_pos (by omega),if_pos ⟨by omega,by omega⟩,andB,if_neg (by simp [he]),zQz he,zAb,zAJ (by omega)]
  exact zR0 hl he j (k+1) (by omega)
theorem zK7 {a b:List Int} (h:a.length≤b.length):(List.zip a b).length=a.length:=by simp;omega
theorem zYb {n h:Nat} {w:List Int} {s:zAa} {hid:List Int} {y e0 off e1 f:Int} (hI:I64s w) (hx:I64s s.F_X) (ho:J64 off) (hf:0≤f∧f≤30) (hxl:s.F_X.length≤100) (hhl:hid.length≤50) (hzl:hid.length≤(w.drop (h*n)).length):∀(t:List (Int×Int)) (k:Nat) (g:List Int),(List.zip hid (w.drop (h*n))).drop k=t→g.length≤k*101→
  ∃g',zAG (netP n h w) s (hid,y,e0) (off,e1) (k:Int) 0 g f=some ((mapE (zBP f s.F_X off) t).2,g',f)∧((mapE (zBP f s.F_X off) t).2=0→g'=g++(mapE (zBP f s.F_X off) t).1.flatten)
 | [],k,g,hk,hg=>by
  have:=zAP hk
  rw [zK7 hzl] at this
  exact ⟨g,by rw [zAG,if_neg this];rfl,fun _=>by simp [mapE]⟩
 | p::t,k,g,hk,hg=>by
  have q:=zAw hk
  have hk2:=q.1
  rw [zK7 hzl] at hk2
  obtain ⟨u,v,z1,z2⟩:=zLg hk
  have a1:=(zAw z1).2.1
  have a2:=(zAw z2).2.1
  have hJ2:J64 p.2:=zEg (zM6 hI (h*n)) z2
  have hwi:IntKind.i64.wrap ((k:Int)+1)=((k+1:Nat):Int):=zAJ (by omega)
  have step:zAG (netP n h w) s (hid,y,e0) (off,e1) (k:Int) 0 g f=(zAN s.F_X (zB9 f off p).1 (zB9 f off p).2 f g>>=fun r5=>zAG (netP n h w) s (hid,y,e0) (off,e1) ((k+1:Nat):Int) r5.1 r5.2.2 r5.2.1):=by
   rw [zAG,if_pos hk2,if_pos ⟨by omega,hk2⟩,andB]
   simp only
   rw [a1,a2,hwi,zB9]
   by_cases c:p.1>0
   ·rw [if_pos (by simp [c]),if_pos ⟨by omega,by omega⟩,zNw ho hJ2,zAb,if_pos c]
   ·rw [if_neg (by simp [c]),if_neg c]
  rw [step,mapE]
  by_cases h1:(zB9 f off p).2≠0
  ·have e1':zBP f s.F_X off p=([],(zB9 f off p).2):=by rw [zBP,if_pos h1]
   rw [zQz h1,zAb,e1']
   simp only
   rw [zR0 (by simp only;omega) h1 (hid.length-(k+1)) (k+1) (by simp only;omega),if_pos h1]
   exact ⟨g,rfl,fun x=>absurd x h1⟩
  ·have e1':zBP f s.F_X off p=zAO f s.F_X (zB9 f off p).1:=by rw [zBP,if_neg h1]
   obtain ⟨g',s1,s2⟩:=zVY (g:=g) hx (zQk (f:=f) (off:=off) (p:=p)) hf hxl (by omega)
   rw [show (zB9 f off p).2=0 by omega,s1,zAb,e1']
   simp only
   by_cases h2:(zAO f s.F_X (zB9 f off p).1).2≠0
   ·rw [zR0 (by simp only;omega) h2 (hid.length-(k+1)) (k+1) (by simp only;omega),if_pos h2]
    exact ⟨g',rfl,fun x=>absurd x h2⟩
   ·have h3:(zAO f s.F_X (zB9 f off p).1).2=0:=by omega
    have hg':=s2 h3
    have hsl:=zJa.2 h3
    obtain ⟨r,r1,r2⟩:=zYb hI hx ho hf hxl hhl hzl t (k+1) g' q.2.2 (by rw [hg',List.length_append];omega)
    rw [h3,r1,if_neg (by simp)]
    refine ⟨r, ?_, ?_⟩
    ·by_cases h4:(mapE (zBP f s.F_X off) t).2≠0
     ·rw [if_pos h4]
     ·rw [if_neg h4];simp only;rw [show (mapE (zBP f s.F_X off) t).2=0 by omega]
    ·intro h4
     have h5:(mapE (zBP f s.F_X off) t).2=0:=by
      by_cases h6:(mapE (zBP f s.F_X off) t).2=0
      ·exact h6
      ·rw [if_pos h6] at h4;exact h4
     rw [r2 h5,if_neg (by omega),hg'];simp
theorem zM8 {n h:Nat} {w:List Int} {f:Int} {s:zAa} (hzl:(hidP n h w s.F_X f).1.length≤(w.drop (h*n)).length) (hxl:n=s.F_X.length+1) (he:(mapE (zBP f s.F_X (zA5 n h w f s).1) (List.zip (hidP n h w s.F_X f).1 (w.drop (h*n)))).2=0):
  (mapE (zBP f s.F_X (zA5 n h w f s).1) (List.zip (hidP n h w s.F_X f).1 (w.drop (h*n)))).1.flatten.length=(hidP n h w s.F_X f).1.length*n:=by
 have:=zOG (n:=n) (mapE (zBP f s.F_X (zA5 n h w f s).1) (List.zip (hidP n h w s.F_X f).1 (w.drop (h*n)))).1 (zEr (P:=fun v:List Int=>v.length=n) _ (fun p _ q=>by rw [zSY.2 q,hxl]))
 rw [this,zB6 _ _ he,zK7 hzl]
theorem zOe {n h:Nat} {w:List Int} {f:Int} {s:zAa} (g:(zA5 n h w f s).2=0):(hidP n h w s.F_X f).2=0:=by
 unfold zA5 zDV at g
 by_cases q:(hidP n h w s.F_X f).2≠0
 ·rw [if_pos q,if_pos q] at g;exact absurd g q
 ·omega
theorem zXw {h n:Nat} {w:List Int} {f:Int} {s:zAa} (hh:1≤h∧h≤8) (hn:2≤n∧n≤17) (hw:w.length=h*n+h+1) (hI:I64s w) (hs:sI s) (hxl:n=s.F_X.length+1) (hf:0≤f∧f≤30):zDn (netP n h w) s f=some (mlp1 n h w f s):=by
 have hb:=zGf hh.2 hn.2
 have ht:=(zTj hh hn hw hI hs.1 hxl hf).1
 by_cases g1:(zDV n h w s.F_X f).2≠0
 ·have e1:zA5 n h w f s=(0,(zDV n h w s.F_X f).2):=by rw [zA5,if_pos g1]
  rw [zDn,ht,zAb,if_pos g1,mlp1,e1,if_pos g1]
 ·have e1:zA5 n h w f s=ov ((zDV n h w s.F_X f).1-s.F_Y):=by rw [zA5,if_neg g1]
  rw [zDn,ht,zAb,if_neg g1]
  simp only
  rw [zNp zRN hs.2,zAb,←e1]
  by_cases g2:(zA5 n h w f s).2≠0
  ·rw [if_pos g2,mlp1,if_pos g2]
  ·have hh0:(hidP n h w s.F_X f).2=0:=zOe (by omega)
   have hl:=zLC hh0
   have hzl:(hidP n h w s.F_X f).1.length≤(w.drop (h*n)).length:=by rw [List.length_drop];omega
   obtain ⟨g',r1,r2⟩:=zYb (y:=(zDV n h w s.F_X f).1) (e0:=(zDV n h w s.F_X f).2) (e1:=(zA5 n h w f s).2) hI hs.1 (zK6 (n:=n) (h:=h) (w:=w) (f:=f) (s:=s)) hf (by omega) (by omega) hzl _ 0 [] rfl (by simp)
   rw [List.drop_zero] at r1 r2
   rw [show ((0:Nat):Int)=0 from rfl] at r1
   rw [if_neg g2,if_neg (fun q=>q hh0),mlp1,if_neg g2]
   have r1':zAG (netP n h w) s ((hidP n h w s.F_X f).1,(zDV n h w s.F_X f).1,(zDV n h w s.F_X f).2) (zA5 n h w f s) 0 (zA5 n h w f s).2 [] f=some ((mapE (zBP f s.F_X (zA5 n h w f s).1) (List.zip (hidP n h w s.F_X f).1 (w.drop (h*n)))).2,g',f):=by
    rw [show (zA5 n h w f s)=((zA5 n h w f s).1,(zA5 n h w f s).2) from rfl] at r1⊢
    rw [show (zA5 n h w f s).2=0 by omega] at r1⊢
    exact r1
   rw [r1',zAb]
   simp only
   by_cases g3:(mapE (zBP f s.F_X (zA5 n h w f s).1) (List.zip (hidP n h w s.F_X f).1 (w.drop (h*n)))).2≠0
   ·rw [zQz g3,zAb,if_pos g3,if_pos g3]
   ·have g3':(mapE (zBP f s.F_X (zA5 n h w f s).1) (List.zip (hidP n h w s.F_X f).1 (w.drop (h*n)))).2=0:=by omega
    have hg':=r2 g3'
    have hfl:=zM8 hzl hxl g3'
    have hhn:(hidP n h w s.F_X f).1.length*n=h*n:=by rw [hl]
    obtain ⟨g'',s1,s2⟩:=zVY (x:=(hidP n h w s.F_X f).1) (a:=(zA5 n h w f s).1) (f:=f) (g:=g') zSS zK6 hf (by omega) (by rw [hg'];simp only [List.nil_append];omega)
    rw [if_neg g3,g3',s1,zAb]
    simp only
    by_cases g4:(zAO f (hidP n h w s.F_X f).1 (zA5 n h w f s).1).2≠0
    ·rw [if_pos g4,if_pos g4]
    ·rw [if_neg g4,if_neg g4,s2 (by omega),hg',List.nil_append]
theorem zQ1 {n h:Nat} {w:List Int} {s:zAa} {hid:List Int} {e0 off e1 f:Int} {rr:List (List Int)} {e2:Int} (hI:I64s w) (hx:I64s s.F_X) (ho:J64 off) (hf:0≤f∧f≤30) (hxl:s.F_X.length≤100) (hhl:hid.length≤50) (hzl:hid.length≤(w.drop (h*n)).length):∀(t:List (Int×Int)) (k:Nat) (g:List Int),(List.zip hid (w.drop (h*n))).drop k=t→g.length≤k*101→
  zDC s f (off,e1) (hid,e0) (rr,w.drop (h*n),e2) (k:Int) g=some (endC g (mapE (zBP f s.F_X off) t))
 | [],k,g,hk,hg=>by
  have:=zAP hk
  rw [zK7 hzl] at this
  rw [zDC,if_neg this];simp [endC,mapE]
 | p::t,k,g,hk,hg=>by
  have q:=zAw hk
  have hk2:=q.1
  rw [zK7 hzl] at hk2
  obtain ⟨u,v,z1,z2⟩:=zLg hk
  have a1:=(zAw z1).2.1
  have a2:=(zAw z2).2.1
  have hJ2:J64 p.2:=zEg (zM6 hI (h*n)) z2
  have hwi:IntKind.i64.wrap ((k:Int)+1)=((k+1:Nat):Int):=zAJ (by omega)
  rw [zDC,if_pos hk2,if_pos ⟨by omega,hk2⟩]
  simp only
  rw [a1,a2,hwi,zMG,zOC ho hJ2,zAb]
  have step:(if p.1>0 then (if 0≤(k:Int)∧(k:Int)<((w.drop (h*n)).length:Int) then (if (mulP off p.2 f).2≠0 then some (.inl ([],(mulP off p.2 f).2)) else some (.inr (mulP off p.2 f).1)) else none) else some (.inr 0):Option (Sum (List Int×Int) Int))=some (if (zB9 f off p).2≠0 then .inl ([],(zB9 f off p).2) else .inr (zB9 f off p).1):=by
   unfold zB9
   by_cases c:p.1>0
   ·rw [if_pos c,if_pos ⟨by omega,by omega⟩,if_pos c];split<;>rfl
   ·rw [if_neg c,if_neg c];rfl
  rw [step,zAb]
  by_cases h1:(zB9 f off p).2≠0
  ·have e1':zBP f s.F_X off p=([],(zB9 f off p).2):=by rw [zBP,if_pos h1]
   rw [if_pos h1,e1',if_pos h1]
  ·have e1':zBP f s.F_X off p=zAO f s.F_X (zB9 f off p).1:=by rw [zBP,if_neg h1]
   have hsl:= @zGk s.F_X (zB9 f off p).1 f
   rw [if_neg h1,e1']
   simp only
   rw [zJt hx (zQk (f:=f) (off:=off) (p:=p)) hf (by omega),zAb]
   by_cases h2:(mapE (fun y=>mulP y (zB9 f off p).1 f) s.F_X).2≠0
   ·have e2:zAO f s.F_X (zB9 f off p).1=([],(mapE (fun y=>mulP y (zB9 f off p).1 f) s.F_X).2):=by rw [zAO,if_pos h2]
    rw [if_pos h2,e2,if_pos h2]
   ·have e2:zAO f s.F_X (zB9 f off p).1=((mapE (fun y=>mulP y (zB9 f off p).1 f) s.F_X).1++[(zB9 f off p).1],0):=by rw [zAO,if_neg h2]
    rw [if_neg h2,if_pos (zB2 (by simp;omega)),if_pos (zB2 (by simp;omega)),e2,if_neg (by simp),List.append_assoc]
    exact zQ1 hI hx ho hf hxl hhl hzl t (k+1) _ q.2.2 (by simp;omega)
theorem zWZ {h n:Nat} {w:List Int} {f:Int} {s:zAa} (hh:1≤h∧h≤8) (hn:2≤n∧n≤17) (hw:w.length=h*n+h+1) (hI:I64s w) (hs:sI s) (hxl:n=s.F_X.length+1) (hf:0≤f∧f≤30):zHg (h:Int) w s f=some (mlp1 n h w f s):=by
 have hb:=zGf hh.2 hn.2
 rw [zHg,zWU hh hn hw hI hs hxl hf,zAb,mlp1]
 by_cases g2:(zA5 n h w f s).2≠0
 ·rw [if_pos g2,if_pos g2]
 ·have hh0:(hidP n h w s.F_X f).2=0:=zOe (by omega)
  have hl:=zLC hh0
  have hzl:(hidP n h w s.F_X f).1.length≤(w.drop (h*n)).length:=by rw [List.length_drop];omega
  have r1:=zQ1 (e0:=(hidP n h w s.F_X f).2) (e1:=(zA5 n h w f s).2) (rr:=zAE n h w) (e2:=0) hI hs.1 (zK6 (n:=n) (h:=h) (w:=w) (f:=f) (s:=s)) hf (by omega) (by omega) hzl _ 0 [] rfl (by simp)
  rw [List.drop_zero,show ((0:Nat):Int)=0 from rfl] at r1
  have hsl:= @zGk (hidP n h w s.F_X f).1 (zA5 n h w f s).1 f
  rw [if_neg g2,if_neg g2,(zWT hh hn hw hI hs.1 hxl hf).2,zAb,zIs hh hn hw,zAb,r1,zAb,endC]
  by_cases g3:(mapE (zBP f s.F_X (zA5 n h w f s).1) (List.zip (hidP n h w s.F_X f).1 (w.drop (h*n)))).2≠0
  ·rw [if_pos g3,if_pos g3]
  ·have hfl:=zM8 hzl hxl (by omega)
   have hhn:(hidP n h w s.F_X f).1.length*n=h*n:=by rw [hl]
   rw [if_neg g3,if_neg g3]
   simp only
   rw [List.nil_append,zJt zSS zK6 hf (by omega),zAb]
   by_cases h2:(mapE (fun y=>mulP y (zA5 n h w f s).1 f) (hidP n h w s.F_X f).1).2≠0
   ·have e2:zAO f (hidP n h w s.F_X f).1 (zA5 n h w f s).1=([],(mapE (fun y=>mulP y (zA5 n h w f s).1 f) (hidP n h w s.F_X f).1).2):=by rw [zAO,if_pos h2]
    rw [if_pos h2,e2,if_pos h2]
   ·have e2:zAO f (hidP n h w s.F_X f).1 (zA5 n h w f s).1=((mapE (fun y=>mulP y (zA5 n h w f s).1 f) (hidP n h w s.F_X f).1).1++[(zA5 n h w f s).1],0):=by rw [zAO,if_neg h2]
    rw [if_neg h2,if_pos (zB2 (by rw [List.length_append];omega)),if_pos (zB2 (by simp only [List.length_append,List.length_singleton];omega)),e2,if_neg (by simp),List.append_assoc]
end Go.Proofs.YtnmlihfpenjeiaaGreat.Abs
