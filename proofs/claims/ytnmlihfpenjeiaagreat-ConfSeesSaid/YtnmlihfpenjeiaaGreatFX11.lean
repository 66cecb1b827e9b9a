/- Plain facts: how lines are to be bent (soft, and the document's). Conditions: none. -/
import Derived.Test.YtnmlihfpenjeiaaGreatFX10
namespace Go.Proofs.YtnmlihfpenjeiaaGreat.Abs
open Go Go.RowKit Go.IntWalk
set_option linter.unusedVariables false
set_option linter.unusedSimpArgs false
set_option linter.unnecessarySimpa false
set_option maxRecDepth 100000
theorem zXr {o n:Nat} {w x:List Int} {f:Int} (ho:2≤o∧o≤8) (hn:2≤n∧n≤17) (hw:w.length=o*n) (hI:I64s w) (hx:I64s x) (hxl:n=x.length+1) (hf:0≤f∧f≤30):
  zHE (o:Int) w x f=some (mapE (fun r=>zBx r x f) (zAE n o w))∧zGa (o:Int) w x f=some (mapE (fun r=>zBx r x f) (zAE n o w)):=by
 have ht:∀r∈zAE n o w,zCW r x f=some (zBx r x f)∧zB3 r x f=some (zBx r x f):=fun r hr=>by
  have:=(zHu (by omega) hr).1
  exact zJb (zPw hI (by omega) hr) hx hf (by omega) (by omega)
 have h0:(at' (zAE n o w) 0).length=n:=zKE (by omega) (by omega)
 have hl:(zAE n o w).length=o:=zDA _ _ _
 refine ⟨?_, ?_⟩
 ·have h:=setE (fun k out=>zB8 x f (zAE n o w,0) k out) (fun r=>zBx r x f) (zAE n o w)
   (fun k out hk=>by
    show zB8 _ _ _ _ _=_
    rw [zB8,if_neg (by simp only;omega)])
   (fun k out r t hr ho=>by
    have g:=zAw hr
    show zB8 _ _ _ _ _=_
    rw [zB8,if_pos g.1,if_pos ⟨by omega,g.1⟩,g.2.1,(ht r (zBQ hr)).1,zAb,if_pos ⟨by omega,by omega⟩,zAb,Int.toNat_natCast,zAJ (by omega)])
   (zAE n o w) 0 [] (List.replicate o 0) rfl rfl (by simp [hl])
  rw [show ((0:Nat):Int)=0 from rfl,List.nil_append] at h
  rw [zHE,zSB ho hn hw,zAb,if_neg (by simp)]
  simp only
  rw [if_pos ⟨by omega,by omega⟩,h0,i64_in _ (by omega),if_neg (by omega),orB,if_neg (by simp only [Bool.or_eq_true,decide_eq_true_eq];omega),if_pos (by omega),zAb,Int.toNat_natCast,h]
  exact zEY _ (fun _=>rfl) (fun _=>rfl) (zCv _ _)
 ·have h:=appE (fun k out=>zBG x f (zAE n o w,0) k out) (fun r=>zBx r x f) (zAE n o w)
   (fun k out hk=>by
    show zBG _ _ _ _ _=_
    rw [zBG,if_neg (by simp only;omega)])
   (fun k out r t hr ho=>by
    have g:=zAw hr
    show zBG _ _ _ _ _=_
    rw [zBG,if_pos g.1,if_pos ⟨by omega,g.1⟩,g.2.1,(ht r (zBQ hr)).2,zAb,if_pos (zB2 (by simp;omega)),zAJ (by omega)])
   (zAE n o w) 0 [] rfl rfl
  rw [show ((0:Nat):Int)=0 from rfl] at h
  rw [zGa,zOX ho hn hw,zAb,if_neg (by simp)]
  simp only
  rw [if_pos ⟨by omega,by omega⟩,h0,i64_in _ (by omega),if_neg (by omega),orB,if_neg (by simp only [Bool.or_eq_true,decide_eq_true_eq];omega),h]
  exact zEY _ (fun _=>rfl) (fun _=>rfl) (zCv _ _)
def zEl (n o:Nat) (w x:List Int) (f:Int):List Int×Int:=if (mapE (fun r=>zBx r x f) (zAE n o w)).2≠0 then ([],(mapE (fun r=>zBx r x f) (zAE n o w)).2) else zIv (zPj (mapE (fun r=>zBx r x f) (zAE n o w)).1) f (mapE (fun r=>zBx r x f) (zAE n o w)).1
theorem zPt {n o:Nat} {w x:List Int} {f:Int} (h:(zEl n o w x f).2=0):(zEl n o w x f).1.length=o:=by
 unfold zEl at h⊢
 by_cases g:(mapE (fun r=>zBx r x f) (zAE n o w)).2≠0
 ·rw [if_pos g] at h;exact absurd h g
 ·rw [if_neg g] at h⊢;rw [zW5 h,zB6 _ _ (by omega),zDA]
theorem zXI {n o:Nat} {w x:List Int} {f:Int}:I64s (zEl n o w x f).1:=by
 unfold zEl;split
 ·intro y hy;cases hy
 ·exact zYx
theorem zXN {o n:Nat} {w x:List Int} {f:Int} (ho:2≤o∧o≤8) (hn:2≤n∧n≤17) (hw:w.length=o*n) (hI:I64s w) (hx:I64s x) (hxl:n=x.length+1) (hf:0≤f∧f≤30):
  zG0 (o:Int) w x f=some (zEl n o w x f)∧zER (o:Int) w x f=some (zEl n o w x f):=by
 obtain ⟨l1,l2⟩:=zXr ho hn hw hI hx hxl hf
 rw [zEl]
 by_cases g:(mapE (fun r=>zBx r x f) (zAE n o w)).2≠0
 ·rw [zG0,zER,l1,l2,zAb,zAb,if_pos g,if_pos g,if_pos g];exact ⟨rfl,rfl⟩
 ·have hl:=zB6 (fun r=>zBx r x f) (zAE n o w) (by omega)
  rw [zDA] at hl
  obtain ⟨s1,s2⟩:=zYP (f:=f) (z:=(mapE (fun r=>zBx r x f) (zAE n o w)).1) (by intro e;rw [e] at hl;simp at hl;omega) (zIM fun r=>zLp _ _ _) (by omega) hf
  rw [zG0,zER,l1,l2,zAb,zAb,if_neg g,if_neg g,if_neg g,s1,s2];exact ⟨rfl,rfl⟩
def zCF (n o:Nat) (w:List Int) (f:Int) (s:zAa):List Int×Int:=if (zEl n o w s.F_X f).2≠0 then ([],(zEl n o w s.F_X f).2) else ((zEl n o w s.F_X f).1.set s.F_Y.toNat (IntKind.i64.wrap (at' (zEl n o w s.F_X f).1 s.F_Y-sShl .i64 1 f)),0)
theorem zQG {n o:Nat} {w:List Int} {f:Int} {s:zAa}:I64s (zCF n o w f s).1:=by
 unfold zCF;split
 ·intro y hy;cases hy
 ·intro y hy
  rcases List.mem_or_eq_of_mem_set hy with h | h
  ·exact zXI y h
  ·rw [h];exact zV6 _
theorem zMu {n o:Nat} {w:List Int} {f:Int} {s:zAa}:(zCF n o w f s).1.length≤o∧((zCF n o w f s).2=0→(zCF n o w f s).1.length=o):=by
 unfold zCF
 by_cases g:(zEl n o w s.F_X f).2≠0
 ·rw [if_pos g];exact ⟨by simp,fun h=>absurd h g⟩
 ·rw [if_neg g];simp only [List.length_set];rw [zPt (by omega)];exact ⟨by omega,fun _=>rfl⟩
theorem zUq {o n:Nat} {w:List Int} {f:Int} {s:zAa} (ho:2≤o∧o≤8) (hn:2≤n∧n≤17) (hw:w.length=o*n) (hI:I64s w) (hx:I64s s.F_X) (hxl:n=s.F_X.length+1) (hf:0≤f∧f≤30) (hy:0≤s.F_Y∧s.F_Y<(o:Int)):
  zHX (o:Int) w s f=some (zCF n o w f s)∧zFm (o:Int) w s f=some (zCF n o w f s):=by
 obtain ⟨t1,t2⟩:=zXN ho hn hw hI hx hxl hf
 rw [zCF]
 by_cases g:(zEl n o w s.F_X f).2≠0
 ·rw [zHX,zFm,t1,t2,zAb,zAb,if_neg g,if_pos g,if_pos g,if_pos g];exact ⟨rfl,rfl⟩
 ·have hl:=zPt (n:=n) (o:=o) (w:=w) (x:=s.F_X) (f:=f) (by omega)
  have hb:0≤s.F_Y∧s.F_Y<((zEl n o w s.F_X f).1.length:Int):=by omega
  refine ⟨?_, ?_⟩
  ·rw [zHX,t1,zAb,if_pos (by omega),if_neg (by omega),if_neg (by omega),zAb,if_neg (by omega),if_pos hb,if_pos (by omega),if_pos hb,if_neg g]
  ·rw [zFm,t2,zAb,if_neg g,orB,if_neg (by simp only [Bool.or_eq_true,decide_eq_true_eq];omega),if_pos hb,if_pos (by omega),if_pos hb,if_neg g]
def zAO (f:Int) (x:List Int) (a:Int):List Int×Int:=if (mapE (fun y=>mulP y a f) x).2≠0 then ([],(mapE (fun y=>mulP y a f) x).2) else ((mapE (fun y=>mulP y a f) x).1++[a],0)
theorem zJa {f:Int} {x:List Int} {a:Int}:(zAO f x a).1.length≤x.length+1∧((zAO f x a).2=0→(zAO f x a).1.length=x.length+1):=by
 unfold zAO
 by_cases g:(mapE (fun y=>mulP y a f) x).2≠0
 ·rw [if_pos g];exact ⟨by simp,fun h=>absurd h g⟩
 ·rw [if_neg g];simp only [List.length_append,List.length_singleton];rw [zB6 _ _ (by omega)];exact ⟨by omega,fun _=>rfl⟩
theorem zOw {f:Int} {x:List Int} {a:Int} (ha:J64 a):I64s (zAO f x a).1:=by
 unfold zAO;split
 ·intro y hy;cases hy
 ·exact zOE (zIM fun _=>zNa _ _ _) (zR9 ha)
def endC (pre:List Int) (r:List (List Int)×Int):Sum (List Int×Int) (List Int):=if r.2≠0 then .inl ([],r.2) else .inr (pre++r.1.flatten)
theorem zMG {α:Type} (g:α→List Int×Int) (pre:List Int) (x:α) (t:List α):endC pre (mapE g (x::t))=if (g x).2≠0 then .inl ([],(g x).2) else endC (pre++(g x).1) (mapE g t):=by
 rw [mapE]
 by_cases h:(g x).2≠0
 ·rw [if_pos h,if_pos h,endC,if_pos h]
 ·rw [if_neg h,if_neg h]
  by_cases q:(mapE g t).2≠0
  ·rw [if_pos q,endC,if_pos q,endC,if_pos q]
  ·rw [if_neg q,endC,if_neg (by simp),endC,if_neg q];simp
def zLW (r:List (List Int)×Int):List Int×Int:=if r.2≠0 then ([],r.2) else (r.1.flatten,0)
theorem zOG {n:Nat}:∀l:List (List Int),(∀v∈l,v.length=n)→l.flatten.length=l.length*n
 | [],h=>by simp
 | v::l,h=>by rw [List.flatten_cons,List.length_append,zOG l (fun x hx=>h x (by simp [hx])),h v (by simp),List.length_cons,Nat.add_mul,Nat.one_mul];omega
theorem zUD {f:Int} {s:zAa} {off:List Int} (hx:I64s s.F_X) (ho:I64s off) (hf:0≤f∧f≤30) (hxl:s.F_X.length≤100) (hol:off.length≤100):∀(t:List Int) (k:Nat) (pre:List Int),off.drop k=t→pre.length≤k*101→
  zDJ s off f (k:Int) pre=some (endC pre (mapE (zAO f s.F_X) t))
 | [],k,pre,h,hp=>by rw [zDJ,if_neg (zAP h)];simp [endC,mapE]
 | x::t,k,pre,h,hp=>by
  have g:=zAw h
  have hl:= @zGk s.F_X x f
  rw [zDJ,if_pos g.1,if_pos ⟨by omega,g.1⟩,g.2.1,zM3 hx (zEg ho h) hf (by omega),zAb,zMG]
  by_cases h1:(mapE (fun y=>mulP y x f) s.F_X).2≠0
  ·have e1:zAO f s.F_X x=([],(mapE (fun y=>mulP y x f) s.F_X).2):=by rw [zAO,if_pos h1]
   rw [if_pos h1,e1,if_pos h1]
  ·have e1:zAO f s.F_X x=((mapE (fun y=>mulP y x f) s.F_X).1++[x],0):=by rw [zAO,if_neg h1]
   rw [if_neg h1,if_pos (zB2 (by simp;omega)),if_pos (zB2 (by simp;omega)),zAb,e1,if_neg (by simp),zAJ (by omega),List.append_assoc]
   exact zUD hx ho hf hxl hol t (k+1) _ g.2.2 (by simp;omega)
theorem zXX {f:Int} {s:zAa} {off:List Int} (hx:I64s s.F_X) (ho:I64s off) (hf:0≤f∧f≤30) (hxl:s.F_X.length≤100) (hol:off.length≤100):zIj s off f=some (zLW (mapE (zAO f s.F_X) off)):=by
 have h:=zUD hx ho hf hxl hol off 0 [] rfl (by simp)
 rw [show ((0:Nat):Int)=0 from rfl] at h
 rw [zIj,h,zAb,endC,zLW]
 by_cases h1:(mapE (zAO f s.F_X) off).2≠0
 ·rw [if_pos h1,if_pos h1]
 ·rw [if_neg h1,if_neg h1];rfl
def zBu (n o:Nat) (w:List Int) (f:Int) (s:zAa):List Int×Int:=if (zCF n o w f s).2≠0 then ([],(zCF n o w f s).2) else zLW (mapE (zAO f s.F_X) (zCF n o w f s).1)
theorem zOm {n o:Nat} {w:List Int} {f:Int} {s:zAa} (hxl:n=s.F_X.length+1):I64s (zBu n o w f s).1∧((zBu n o w f s).2=0→(zBu n o w f s).1.length=o*n)∧((zBu n o w f s).2≠0→(zBu n o w f s).1=[]):=by
 unfold zBu
 by_cases g:(zCF n o w f s).2≠0
 ·rw [if_pos g];exact ⟨fun y hy=>(by cases hy),fun h=>absurd h g,fun _=>rfl⟩
 ·rw [if_neg g,zLW]
  by_cases h:(mapE (zAO f s.F_X) (zCF n o w f s).1).2≠0
  ·rw [if_pos h];exact ⟨fun y hy=>(by cases hy),fun q=>absurd q h,fun _=>rfl⟩
  ·rw [if_neg h]
   refine ⟨?_,fun _=> ?_,fun q=>absurd rfl q⟩
   ·intro y hy
    obtain ⟨v,hv,hy⟩:=List.mem_flatten.1 hy
    exact zEr (P:=fun v:List Int=>I64s v) (zCF n o w f s).1 (fun a ha _=>zOw (zQG a ha)) v hv y hy
   ·have:=zOG (n:=n) (mapE (zAO f s.F_X) (zCF n o w f s).1).1 (zEr (P:=fun v:List Int=>v.length=n) (zCF n o w f s).1 (fun a ha q=>by rw [zJa.2 q,hxl]))
    simp only
    rw [this,zB6 _ _ (by omega),zMu.2 (by omega)]
def zFB (one:zAa→List Int×Int) (l:List zAa):List Int×Int:=if (mapE one l).2≠0 then ([],(mapE one l).2) else zFw (l.length:Int) (mapE one l).1
theorem zW4 {one:zAa→List Int×Int} {l:List zAa} {m:Nat} (hl:l.length≤64) (h:∀s∈l,I64s (one s).1∧((one s).2=0→(one s).1.length=m)):(mapE one l).1.length≤64∧(∀v∈(mapE one l).1,I64s v)∧(∀v∈(mapE one l).1,v.length=m):=by
 refine ⟨?_,zEr l fun x hx _=>(h x hx).1,zEr l fun x hx q=>(h x hx).2 q⟩
 by_cases g:(mapE one l).2=0
 ·rw [zB6 _ _ g];exact hl
 ·rw [zCv _ _ g];simp
theorem zUF {one:zAa→List Int×Int} {l:List zAa} {m:Nat} (hl:l.length≤64) (hm:m≤4096) (h:∀s∈l,I64s (one s).1∧((one s).2=0→(one s).1.length=m)):zEa (l.length:Int) (mapE one l).1=some (zFw (l.length:Int) (mapE one l).1)∧zDy (l.length:Int) (mapE one l).1=some (zFw (l.length:Int) (mapE one l).1):=by
 obtain ⟨a1,a2,a3⟩:=zW4 hl h
 exact zRS (by unfold J64;omega) (by omega) a2 (fun v hv=>by rw [a3 v hv];exact hm)
end Go.Proofs.YtnmlihfpenjeiaaGreat.Abs
