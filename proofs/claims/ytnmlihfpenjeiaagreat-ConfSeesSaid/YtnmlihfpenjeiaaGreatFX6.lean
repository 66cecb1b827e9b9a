/- Plain facts: the straight model (linear, and the document's). Conditions: none. -/
import Derived.Test.YtnmlihfpenjeiaaGreatFX5
import Derived.Test.YtnmlihfpenjeiaaGreatPY4
namespace Go.Proofs.YtnmlihfpenjeiaaGreat.Abs
open Go Go.RowKit Go.IntWalk
set_option linter.unusedVariables false
set_option linter.unusedSimpArgs false
set_option linter.unnecessarySimpa false
set_option maxRecDepth 100000
theorem zBQ {α:Type} {l t:List α} {x:α} {k:Nat} (h:l.drop k=x::t):x∈l:=by
 have:x∈l.drop k:=by rw [h];simp
 exact List.mem_of_mem_drop this
def zEj (a:Int) (l:List zAa):Prop:=(∀s∈l,(s.F_X.length:Int)=a)∧1≤l.length∧l.length≤64
theorem zMo {a:Int} {l:List zAa} (h:zEj a l) (b:Bool):∀(t:List zAa) (k:Nat),l.drop k=t→zBD a l (k:Int) b=some b
 | [],k,h1=>by rw [zBD,if_neg (zAP h1)]
 | x::t,k,h1=>by
  have g:=zAw h1
  rw [zBD,if_pos g.1,if_pos ⟨by omega,g.1⟩,g.2.1,show ((x.F_X.length:Int)==a)=true by simpa using h.1 x (zBQ h1),zAJ (by have:=h.2;omega)]
  cases b with
  | true=>rw [if_pos rfl,zAb];exact zMo h true t (k+1) g.2.2
  | false=>rw [if_neg (by simp),zAb];exact zMo h false t (k+1) g.2.2
theorem zUL {a:Int} {w:List Int} {l:List zAa} (ha:1≤a∧a≤16) (h:zEj a l):zCi a w l=some (if (w.length:Int)=a+1 then 0 else 4):=by
 have h0:=zMo h ((w.length:Int)==a+1) l 0 rfl
 rw [show ((0:Nat):Int)=0 from rfl] at h0
 have h2:=h.2
 rw [zCi,zGt,zAb,if_pos ha,if_neg (by simp)]
 simp only
 rw [h0,zAb,orB]
 by_cases g:(w.length:Int)=a+1
 ·rw [if_pos g,if_neg (by simp [g]),if_neg (by simp only [Bool.or_eq_true,decide_eq_true_eq];omega)]
 ·rw [if_neg g,if_pos (by simpa using g)]
theorem zR4 {a:Int} {w:List Int} {l:List zAa} (ha:1≤a∧a≤16) (h:zEj a l) (hw:(w.length:Int)=a+1):zCi a w l=some 0:=by rw [zUL ha h,if_pos hw]
theorem zRe {a:Int} {l:List zAa} (h:zEj a l):∀(t:List zAa) (k:Nat),l.drop k=t→zBH a l (k:Int)=some (.inr ())
 | [],k,h1=>by rw [zBH,if_neg (zAP h1)]
 | x::t,k,h1=>by
  have g:=zAw h1
  rw [zBH,if_pos g.1,if_pos ⟨by omega,g.1⟩,g.2.1,if_neg (by simpa using h.1 x (zBQ h1)),zAJ (by have:=h.2;omega)]
  exact zRe h t (k+1) g.2.2
theorem zU0 {a:Int} {w:List Int} {l:List zAa} (ha:1≤a∧a≤16) (h:zEj a l):zCd a w l=some (if (w.length:Int)=a+1 then 0 else 4):=by
 have h0:=zRe h l 0 rfl
 rw [show ((0:Nat):Int)=0 from rfl] at h0
 have h2:=h.2
 rw [zCd,zM4,zAb,if_pos ha,if_neg (by simp)]
 simp only
 by_cases g:(w.length:Int)=a+1
 ·rw [if_pos g,if_neg (fun x=>x g),h0,zAb]
  simp only
  rw [orB,if_neg (by simp only [Bool.or_eq_true,decide_eq_true_eq];omega)]
 ·rw [if_neg g,if_pos g]
theorem zRW {a:Int} {w:List Int} {l:List zAa} (ha:1≤a∧a≤16) (h:zEj a l) (hw:(w.length:Int)=a+1):zCd a w l=some 0:=by rw [zU0 ha h,if_pos hw]
def zBx (w x:List Int) (f:Int):Int×Int:=if (dotP (w.take x.length) x f).2≠0 then (0,(dotP (w.take x.length) x f).2) else ov ((dotP (w.take x.length) x f).1+at' w (x.length:Int))
theorem zZx {l:List Int} {k:Nat} (h:k<l.length):at' l (k:Int)∈l:=by
 rw [zD4,List.getD_eq_getElem?_getD,List.getElem?_eq_getElem h];simp
theorem zLp (w x:List Int) (f:Int):J64 (zBx w x f).1:=by
 unfold zBx;split
 ·exact J0
 ·exact ov_J _
theorem zRb {w:List Int} (h:I64s w) (n:Nat):I64s (w.take n):=fun y hy=>h y (List.mem_of_mem_take hy)
theorem zXE (w:List Int) (n:Nat) (h:n≤w.length):cutOk none (some (n:Int)) w.length∧cut' w none (some (n:Int))=w.take n:=by
 unfold cutOk cut';simp;omega
theorem zW1 {x:List Int}:zEj (x.length:Int) [(⟨x,0⟩:zAa)]:=⟨by simp,by simp,by simp⟩
theorem zJb {w x:List Int} {f:Int} (hw:I64s w) (hx:I64s x) (hf:0≤f∧f≤30) (hl:w.length=x.length+1) (h1:1≤x.length∧x.length≤16):zCW w x f=some (zBx w x f)∧zB3 w x f=some (zBx w x f):=by
 have hc:=zXE w x.length (by omega)
 have hlt:(w.take x.length).length=x.length:=by simp;omega
 have hat:=hw _ (zZx (l:=w) (k:=x.length) (by omega))
 have hJ:J64 (dotP (w.take x.length) x f).1:=zWY _ _ _ J0
 rw [zBx]
 refine ⟨?_, ?_⟩
 ·rw [zCW,zR4 (by omega) zW1 (by omega),zAb,if_neg (by simp),if_pos hc.1,hc.2,zAb,zY8 (zRb hw _) hx hf (by omega) hlt,zAb]
  by_cases h:(dotP (w.take x.length) x f).2≠0
  ·rw [if_pos h,if_pos h]
  ·rw [if_neg h,if_neg h,if_pos ⟨by omega,by omega⟩,zQy hJ hat,zAb]
 ·rw [zB3,zRW (by omega) zW1 (by omega),zAb,if_neg (by simp),if_pos hc.1,hc.2,zAb,zXt (zRb hw _) hx hf (by omega) hlt,zAb]
  by_cases h:(dotP (w.take x.length) x f).2≠0
  ·rw [if_pos h,if_pos h]
  ·rw [if_neg h,if_neg h,if_pos ⟨by omega,by omega⟩,zOj hJ hat,zAb]
def offP (w:List Int) (f:Int) (s:zAa):Int×Int:=if (zBx w s.F_X f).2≠0 then (0,(zBx w s.F_X f).2) else ov ((zBx w s.F_X f).1-s.F_Y)
theorem zSw (w:List Int) (f:Int) (s:zAa):J64 (offP w f s).1:=by
 unfold offP;split
 ·exact J0
 ·exact ov_J _
def sI (s:zAa):Prop:=I64s s.F_X∧J64 s.F_Y
theorem zQW {w:List Int} {f:Int} {s:zAa} (hw:I64s w) (hs:sI s) (hf:0≤f∧f≤30) (hl:w.length=s.F_X.length+1) (h1:1≤s.F_X.length∧s.F_X.length≤16):zHQ w s f=some (offP w f s)∧zHf w s f=some (offP w f s):=by
 obtain ⟨t1,t2⟩:=zJb hw hs.1 hf hl h1
 rw [offP]
 refine ⟨?_, ?_⟩
 ·rw [zHQ,t1,zAb,zNp (zLp _ _ _) hs.2,zAb];split<;>rfl
 ·rw [zHf,t2,zAb,zLF (zLp _ _ _) hs.2,zAb];split<;>rfl
def lin1 (w:List Int) (f:Int) (s:zAa):List Int×Int:=
 if (offP w f s).2≠0 then ([],(offP w f s).2) else if (mapE (fun x=>mulP x (offP w f s).1 f) s.F_X).2≠0 then ([],(mapE (fun x=>mulP x (offP w f s).1 f) s.F_X).2) else ((mapE (fun x=>mulP x (offP w f s).1 f) s.F_X).1++[(offP w f s).1],0)
def zOD (w:List Int) (f:Int) (l:List zAa):List Int×Int:=if (mapE (lin1 w f) l).2≠0 then ([],(mapE (lin1 w f) l).2) else zFw (l.length:Int) (mapE (lin1 w f) l).1
theorem zOE {a b:List Int} (ha:I64s a) (hb:I64s b):I64s (a++b):=fun y hy=>(List.mem_append.1 hy).elim (ha y) (hb y)
theorem zR9 {x:Int} (h:J64 x):I64s [x]:=fun y hy=>by rw [List.mem_singleton.1 hy];exact h
theorem zGk {x:List Int} {a f:Int}:(mapE (fun y=>mulP y a f) x).1.length≤x.length:=by
 by_cases h:(mapE (fun y=>mulP y a f) x).2=0
 ·rw [zB6 _ _ h];omega
 ·rw [zCv _ _ h];simp
theorem zK5 {w:List Int} {f:Int} {s:zAa}:I64s (lin1 w f s).1∧(lin1 w f s).1.length≤s.F_X.length+1∧((lin1 w f s).2=0→(lin1 w f s).1.length=s.F_X.length+1):=by
 unfold lin1
 split
 ·exact ⟨fun y hy=>(by cases hy),by simp,fun h=>absurd h ‹_›⟩
 ·split
  ·exact ⟨fun y hy=>(by cases hy),by simp,fun h=>absurd h ‹_›⟩
  ·rename_i h1 h2
   have:=zB6 (fun y=>mulP y (offP w f s).1 f) s.F_X (by omega)
   exact ⟨zOE (zIM fun _=>zNa _ _ _) (zR9 (zSw _ _ _)),by simp;omega,fun _=>by simp;omega⟩
theorem zOz {w:List Int} {f:Int} {l:List zAa} (hl:l.length≤64) {e:Int} (he:e≠0) (x2:Int) (x3:List (List Int)):∀(t:List zAa) (k:Nat),l.drop k=t→zAu w f l (k:Int) e x2 x3=some (e,x2,x3)
 | [],k,h=>by rw [zAu,if_neg (zAP h)]
 | x::t,k,h=>by
  have g:=zAw h
  rw [zAu,if_pos g.1,if_pos ⟨by omega,g.1⟩,if_neg he,if_neg he,zAJ (by omega)]
  exact zOz hl he x2 x3 t (k+1) g.2.2
theorem zU4 {w:List Int} {f a:Int} {l:List zAa} (hw:I64s w) (hf:0≤f∧f≤30) (ha:1≤a∧a≤16) (hl:zEj a l) (hs:∀s∈l,sI s) (hlw:(w.length:Int)=a+1):∀(t:List zAa) (k:Nat) (x3:List (List Int)),l.drop k=t→x3.length=k→∃r,zAu w f l (k:Int) 0 f x3=some ((mapE (lin1 w f) t).2,f,r)∧((mapE (lin1 w f) t).2=0→r=x3++(mapE (lin1 w f) t).1)
 | [],k,x3,h,h3=>⟨x3,by rw [zAu,if_neg (zAP h)];rfl,fun _=>by simp [mapE]⟩
 | x::t,k,x3,h,h3=>by
  have g:=zAw h
  have hx:=hs x (zBQ h)
  have hxl:=hl.1 x (zBQ h)
  have h64:=hl.2.2
  have ho:=(zQW (f:=f) hw hx hf (by omega) (by omega)).1
  have hsc:=zM3 (f:=f) hx.1 (zSw w f x) hf (by omega)
  have hsl:= @zGk x.F_X (offP w f x).1 f
  have hwi:IntKind.i64.wrap ((k:Int)+1)=((k+1:Nat):Int):=zAJ (by omega)
  by_cases h1:(offP w f x).2=0
  ·rw [zAu,if_pos g.1,if_pos ⟨by omega,g.1⟩,if_pos rfl,g.2.1,ho,zAb,if_pos h1,zD5,hsc,zAb,if_pos (zB2 (by simp;omega)),if_pos (zEk (by omega) (by simp;omega)),zAb,hwi]
   simp only
   by_cases h2:(mapE (fun y=>mulP y (offP w f x).1 f) x.F_X).2=0
   ·obtain ⟨r,r1,r2⟩:=zU4 hw hf ha hl hs hlw t (k+1) (x3++[(mapE (fun y=>mulP y (offP w f x).1 f) x.F_X).1++[(offP w f x).1]]) g.2.2 (by simp;omega)
    have e1:lin1 w f x=((mapE (fun y=>mulP y (offP w f x).1 f) x.F_X).1++[(offP w f x).1],0):=by rw [lin1,if_neg (by omega),if_neg (by omega)]
    rw [h2,r1,mapE,e1]
    simp only
    rw [if_neg (by simp)]
    refine ⟨r, ?_, ?_⟩
    ·by_cases h4:(mapE (lin1 w f) t).2=0
     ·rw [if_neg (by omega),h4]
     ·rw [if_pos h4]
    ·intro h4
     have h5:(mapE (lin1 w f) t).2=0:=by
      by_cases h6:(mapE (lin1 w f) t).2=0
      ·exact h6
      ·rw [if_pos h6] at h4;exact h4
     rw [r2 h5,if_neg (by omega)];simp
   ·rw [zOz h64 h2 _ _ t (k+1) g.2.2,mapE]
    have e1:lin1 w f x=([],(mapE (fun y=>mulP y (offP w f x).1 f) x.F_X).2):=by rw [lin1,if_neg (by omega),if_pos h2]
    rw [e1]
    simp only
    rw [if_pos h2]
    exact ⟨_,rfl,fun h4=>absurd h4 h2⟩
  ·rw [zAu,if_pos g.1,if_pos ⟨by omega,g.1⟩,if_pos rfl,g.2.1,ho,zAb,if_neg h1,hwi,zOz h64 h1 _ _ t (k+1) g.2.2,mapE]
   have e1:lin1 w f x=([],(offP w f x).2):=by rw [lin1,if_pos h1]
   rw [e1]
   simp only
   rw [if_pos h1]
   exact ⟨_,rfl,fun h4=>absurd h4 h1⟩
theorem zYD {w:List Int} {f a:Int} {l:List zAa} (hl:zEj a l) (ha:a≤16):(mapE (lin1 w f) l).1.length≤64∧(∀v∈(mapE (lin1 w f) l).1,I64s v)∧(∀v∈(mapE (lin1 w f) l).1,v.length≤4096)∧(∀v∈(mapE (lin1 w f) l).1,(v.length:Int)=a+1):=by
 refine ⟨?_, ?_, ?_, ?_⟩
 ·have:=hl.2.2
  by_cases h:(mapE (lin1 w f) l).2=0
  ·rw [zB6 _ _ h];omega
  ·rw [zCv _ _ h];simp
 ·exact zEr l fun x hx h=>zK5.1
 ·exact zEr l fun x hx h=>by have:=hl.1 x hx;have:=(@zK5 w f x).2.1;omega
 ·exact zEr l fun x hx h=>by have:=hl.1 x hx;have:=(@zK5 w f x).2.2 h;omega
theorem zQb {w:List Int} {f a:Int} {l:List zAa} (hw:I64s w) (hf:0≤f∧f≤30) (ha:1≤a∧a≤16) (hl:zEj a l) (hs:∀s∈l,sI s) (hlw:(w.length:Int)=a+1):zG7 w f l=some (zOD w f l)∧zGM w f l=some (zOD w f l):=by
 obtain ⟨r,r1,r2⟩:=zU4 hw hf ha hl hs hlw l 0 [] rfl rfl
 rw [show ((0:Nat):Int)=0 from rfl] at r1
 have h64:=hl.2.2
 have hi:IntKind.i64.wrap ((w.length:Int)-1)=a:=by rw [i64_in _ (by omega)];omega
 obtain ⟨l1,l2,l3,l4⟩:= @zYD w f a l hl ha.2
 obtain ⟨m1,m2⟩:=zRS (n:=(l.length:Int)) (l:=(mapE (lin1 w f) l).1) (by unfold J64;omega) (by omega) l2 l3
 rw [zOD]
 refine ⟨?_, ?_⟩
 ·rw [zG7,zD0,hi,zR4 ha hl hlw,zAb,r1,zAb,zAb]
  simp only
  by_cases h:(mapE (lin1 w f) l).2=0
  ·rw [if_neg (by omega),if_neg (by omega),r2 h,List.nil_append,m1,zAb]
  ·rw [if_pos h,if_pos h]
 ·have h:=appE (fun k out=>zBS w f l k out) (lin1 w f) l
   (fun k out hk=>by
    show zBS _ _ _ _ _=_
    rw [zBS,if_neg (by omega)])
   (fun k out x t hx ho=>by
    have g:=zAw hx
    have hm:=zBQ hx
    have hxl:=hl.1 x hm
    have hsl:= @zGk x.F_X (offP w f x).1 f
    show zBS _ _ _ _ _=_
    rw [zBS,if_pos g.1,if_pos ⟨by omega,g.1⟩,g.2.1,(zQW (f:=f) hw (hs x hm) hf (by omega) (by omega)).2,zAb,zJt (f:=f) (hs x hm).1 (zSw w f x) hf (by omega),zAb,if_pos (zB2 (by simp;omega)),if_pos (zEk (by omega) (by simp;omega)),zAJ (by omega),lin1]
    by_cases h1:(offP w f x).2≠0
    ·rw [if_pos h1,if_pos h1,if_pos h1]
    ·rw [if_neg h1,if_neg h1]
     by_cases h2:(mapE (fun y=>mulP y (offP w f x).1 f) x.F_X).2≠0
     ·rw [if_pos h2,if_pos h2,if_pos h2]
     ·rw [if_neg h2,if_neg h2,if_neg (by simp)])
   l 0 [] rfl rfl
  rw [show ((0:Nat):Int)=0 from rfl] at h
  rw [zGM,hi,zRW ha hl hlw,zAb,if_neg (by simp),h,endE]
  by_cases h:(mapE (lin1 w f) l).2=0
  ·rw [if_neg (by omega),if_neg (by omega),zAb]
   simp only
   rw [List.nil_append,m2,zAb]
  ·rw [if_pos h,if_pos h,zAb]
end Go.Proofs.YtnmlihfpenjeiaaGreat.Abs
