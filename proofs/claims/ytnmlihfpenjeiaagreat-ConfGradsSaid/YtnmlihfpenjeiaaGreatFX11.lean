/- Plain facts: how lines are to be bent (soft, and the document's). Conditions: none. -/
import Derived.Test.YtnmlihfpenjeiaaGreatFX10
namespace Go.Proofs.YtnmlihfpenjeiaaGreat.Abs
open Go Go.RowKit Go.IntWalk
set_option linter.unusedVariables false
set_option linter.unusedSimpArgs false
set_option linter.unnecessarySimpa false
set_option maxRecDepth 100000
theorem zAaW {o n:Nat} {w x:List Int} {f:Int} (ho:2≤o∧o≤8) (hn:2≤n∧n≤17) (hw:w.length=o*n) (hI:I64s w) (hx:I64s x) (hxl:n=x.length+1) (hf:0≤f∧f≤30):
  zIs (o:Int) w x f=some (mapE (fun r=>zBO r x f) (zAF n o w))∧zE1 (o:Int) w x f=some (mapE (fun r=>zBO r x f) (zAF n o w)):=by
 have ht:∀r∈zAF n o w,zDa r x f=some (zBO r x f)∧zBQ r x f=some (zBO r x f):=fun r hr=>by
  have:=(zId (by omega) hr).1
  exact zKv (zTC hI (by omega) hr) hx hf (by omega) (by omega)
 have h0:(at' (zAF n o w) 0).length=n:=zLa (by omega) (by omega)
 have hl:(zAF n o w).length=o:=zDF _ _ _
 refine ⟨?_, ?_⟩
 ·have h:=setE (fun k out=>zCo x f (zAF n o w,0) k out) (fun r=>zBO r x f) (zAF n o w)
   (fun k out hk=>by
    show zCo _ _ _ _ _=_
    rw [zCo,if_neg (by simp only;omega)])
   (fun k out r t hr ho=>by
    have g:=zAw hr
    show zCo _ _ _ _ _=_
    rw [zCo,if_pos g.1,if_pos ⟨by omega,g.1⟩,g.2.1,(ht r (zB8 hr)).1,zAb,if_pos ⟨by omega,by omega⟩,zAb,Int.toNat_natCast,zAO (by omega)])
   (zAF n o w) 0 [] (List.replicate o 0) rfl rfl (by simp [hl])
  rw [show ((0:Nat):Int)=0 from rfl,List.nil_append] at h
  rw [zIs,zWy ho hn hw,zAb,if_neg (by simp)]
  simp only
  rw [if_pos ⟨by omega,by omega⟩,h0,i64_in _ (by omega),if_neg (by omega),orB,if_neg (by simp only [Bool.or_eq_true,decide_eq_true_eq];omega),if_pos (by omega),zAb,Int.toNat_natCast,h]
  exact zFG _ (fun _=>rfl) (fun _=>rfl) (zCU _ _)
 ·have h:=appE (fun k out=>zBn x f (zAF n o w,0) k out) (fun r=>zBO r x f) (zAF n o w)
   (fun k out hk=>by
    show zBn _ _ _ _ _=_
    rw [zBn,if_neg (by simp only;omega)])
   (fun k out r t hr ho=>by
    have g:=zAw hr
    show zBn _ _ _ _ _=_
    rw [zBn,if_pos g.1,if_pos ⟨by omega,g.1⟩,g.2.1,(ht r (zB8 hr)).2,zAb,if_pos (zB4 (by simp;omega)),zAO (by omega)])
   (zAF n o w) 0 [] rfl rfl
  rw [show ((0:Nat):Int)=0 from rfl] at h
  rw [zE1,zSH ho hn hw,zAb,if_neg (by simp)]
  simp only
  rw [if_pos ⟨by omega,by omega⟩,h0,i64_in _ (by omega),if_neg (by omega),orB,if_neg (by simp only [Bool.or_eq_true,decide_eq_true_eq];omega),h]
  exact zFG _ (fun _=>rfl) (fun _=>rfl) (zCU _ _)
def zEJ (n o:Nat) (w x:List Int) (f:Int):List Int×Int:=if (mapE (fun r=>zBO r x f) (zAF n o w)).2≠0 then ([],(mapE (fun r=>zBO r x f) (zAF n o w)).2) else zI8 (zTm (mapE (fun r=>zBO r x f) (zAF n o w)).1) f (mapE (fun r=>zBO r x f) (zAF n o w)).1
theorem zTE {n o:Nat} {w x:List Int} {f:Int} (h:(zEJ n o w x f).2=0):(zEJ n o w x f).1.length=o:=by
 unfold zEJ at h⊢
 by_cases g:(mapE (fun r=>zBO r x f) (zAF n o w)).2≠0
 ·rw [if_pos g] at h;exact absurd h g
 ·rw [if_neg g] at h⊢;rw [zAao h,zCk _ _ (by omega),zDF]
theorem zAbh {n o:Nat} {w x:List Int} {f:Int}:I64s (zEJ n o w x f).1:=by
 unfold zEJ;split
 ·intro y hy;cases hy
 ·exact zAb8
theorem zAbB {o n:Nat} {w x:List Int} {f:Int} (ho:2≤o∧o≤8) (hn:2≤n∧n≤17) (hw:w.length=o*n) (hI:I64s w) (hx:I64s x) (hxl:n=x.length+1) (hf:0≤f∧f≤30):
  zHF (o:Int) w x f=some (zEJ n o w x f)∧zEm (o:Int) w x f=some (zEJ n o w x f):=by
 obtain ⟨l1,l2⟩:=zAaW ho hn hw hI hx hxl hf
 rw [zEJ]
 by_cases g:(mapE (fun r=>zBO r x f) (zAF n o w)).2≠0
 ·rw [zHF,zEm,l1,l2,zAb,zAb,if_pos g,if_pos g,if_pos g];exact ⟨rfl,rfl⟩
 ·have hl:=zCk (fun r=>zBO r x f) (zAF n o w) (by omega)
  rw [zDF] at hl
  obtain ⟨s1,s2⟩:=zAcl (f:=f) (z:=(mapE (fun r=>zBO r x f) (zAF n o w)).1) (by intro e;rw [e] at hl;simp at hl;omega) (zJE fun r=>zMS _ _ _) (by omega) hf
  rw [zHF,zEm,l1,l2,zAb,zAb,if_neg g,if_neg g,if_neg g,s1,s2];exact ⟨rfl,rfl⟩
def zCW (n o:Nat) (w:List Int) (f:Int) (s:zAa):List Int×Int:=if (zEJ n o w s.F_X f).2≠0 then ([],(zEJ n o w s.F_X f).2) else ((zEJ n o w s.F_X f).1.set s.F_Y.toNat (IntKind.i64.wrap (at' (zEJ n o w s.F_X f).1 s.F_Y-sShl .i64 1 f)),0)
theorem zUo {n o:Nat} {w:List Int} {f:Int} {s:zAa}:I64s (zCW n o w f s).1:=by
 unfold zCW;split
 ·intro y hy;cases hy
 ·intro y hy
  rcases List.mem_or_eq_of_mem_set hy with h | h
  ·exact zAbh y h
  ·rw [h];exact zAag _
theorem zO6 {n o:Nat} {w:List Int} {f:Int} {s:zAa}:(zCW n o w f s).1.length≤o∧((zCW n o w f s).2=0→(zCW n o w f s).1.length=o):=by
 unfold zCW
 by_cases g:(zEJ n o w s.F_X f).2≠0
 ·rw [if_pos g];exact ⟨by simp,fun h=>absurd h g⟩
 ·rw [if_neg g];simp only [List.length_set];rw [zTE (by omega)];exact ⟨by omega,fun _=>rfl⟩
theorem zYi {o n:Nat} {w:List Int} {f:Int} {s:zAa} (ho:2≤o∧o≤8) (hn:2≤n∧n≤17) (hw:w.length=o*n) (hI:I64s w) (hx:I64s s.F_X) (hxl:n=s.F_X.length+1) (hf:0≤f∧f≤30) (hy:0≤s.F_Y∧s.F_Y<(o:Int)):
  zIv (o:Int) w s f=some (zCW n o w f s)∧zEH (o:Int) w s f=some (zCW n o w f s):=by
 obtain ⟨t1,t2⟩:=zAbB ho hn hw hI hx hxl hf
 rw [zCW]
 by_cases g:(zEJ n o w s.F_X f).2≠0
 ·rw [zIv,zEH,t1,t2,zAb,zAb,if_neg g,if_pos g,if_pos g,if_pos g];exact ⟨rfl,rfl⟩
 ·have hl:=zTE (n:=n) (o:=o) (w:=w) (x:=s.F_X) (f:=f) (by omega)
  have hb:0≤s.F_Y∧s.F_Y<((zEJ n o w s.F_X f).1.length:Int):=by omega
  refine ⟨?_, ?_⟩
  ·rw [zIv,t1,zAb,if_pos (by omega),if_neg (by omega),if_neg (by omega),zAb,if_neg (by omega),if_pos hb,if_pos (by omega),if_pos hb,if_neg g]
  ·rw [zEH,t2,zAb,if_neg g,orB,if_neg (by simp only [Bool.or_eq_true,decide_eq_true_eq];omega),if_pos hb,if_pos (by omega),if_pos hb,if_neg g]
def zAR (f:Int) (x:List Int) (a:Int):List Int×Int:=if (mapE (fun y=>mulP y a f) x).2≠0 then ([],(mapE (fun y=>mulP y a f) x).2) else ((mapE (fun y=>mulP y a f) x).1++[a],0)
theorem zJ5 {f:Int} {x:List Int} {a:Int}:(zAR f x a).1.length≤x.length+1∧((zAR f x a).2=0→(zAR f x a).1.length=x.length+1):=by
 unfold zAR
 by_cases g:(mapE (fun y=>mulP y a f) x).2≠0
 ·rw [if_pos g];exact ⟨by simp,fun h=>absurd h g⟩
 ·rw [if_neg g];simp only [List.length_append,List.length_singleton];rw [zCk _ _ (by omega)];exact ⟨by omega,fun _=>rfl⟩
theorem zSi {f:Int} {x:List Int} {a:Int} (ha:J64 a):I64s (zAR f x a).1:=by
 unfold zAR;split
 ·intro y hy;cases hy
 ·exact zRQ (zJE fun _=>zOW _ _ _) (zXc ha)
def endC (pre:List Int) (r:List (List Int)×Int):Sum (List Int×Int) (List Int):=if r.2≠0 then .inl ([],r.2) else .inr (pre++r.1.flatten)
theorem zPq {α:Type} (g:α→List Int×Int) (pre:List Int) (x:α) (t:List α):endC pre (mapE g (x::t))=if (g x).2≠0 then .inl ([],(g x).2) else endC (pre++(g x).1) (mapE g t):=by
 rw [mapE]
 by_cases h:(g x).2≠0
 ·rw [if_pos h,if_pos h,endC,if_pos h]
 ·rw [if_neg h,if_neg h]
  by_cases q:(mapE g t).2≠0
  ·rw [if_pos q,endC,if_pos q,endC,if_pos q]
  ·rw [if_neg q,endC,if_neg (by simp),endC,if_neg q];simp
def zNc (r:List (List Int)×Int):List Int×Int:=if r.2≠0 then ([],r.2) else (r.1.flatten,0)
theorem zSa {n:Nat}:∀l:List (List Int),(∀v∈l,v.length=n)→l.flatten.length=l.length*n
 | [],h=>by simp
 | v::l,h=>by rw [List.flatten_cons,List.length_append,zSa l (fun x hx=>h x (by simp [hx])),h v (by simp),List.length_cons,Nat.add_mul,Nat.one_mul];omega
theorem zXY {f:Int} {s:zAa} {off:List Int} (hx:I64s s.F_X) (ho:I64s off) (hf:0≤f∧f≤30) (hxl:s.F_X.length≤100) (hol:off.length≤100):∀(t:List Int) (k:Nat) (pre:List Int),off.drop k=t→pre.length≤k*101→
  zDP s off f (k:Int) pre=some (endC pre (mapE (zAR f s.F_X) t))
 | [],k,pre,h,hp=>by rw [zDP,if_neg (zAT h)];simp [endC,mapE]
 | x::t,k,pre,h,hp=>by
  have g:=zAw h
  have hl:= @zGI s.F_X x f
  rw [zDP,if_pos g.1,if_pos ⟨by omega,g.1⟩,g.2.1,zPi hx (zEo ho h) hf (by omega),zAb,zPq]
  by_cases h1:(mapE (fun y=>mulP y x f) s.F_X).2≠0
  ·have e1:zAR f s.F_X x=([],(mapE (fun y=>mulP y x f) s.F_X).2):=by rw [zAR,if_pos h1]
   rw [if_pos h1,e1,if_pos h1]
  ·have e1:zAR f s.F_X x=((mapE (fun y=>mulP y x f) s.F_X).1++[x],0):=by rw [zAR,if_neg h1]
   rw [if_neg h1,if_pos (zB4 (by simp;omega)),if_pos (zB4 (by simp;omega)),zAb,e1,if_neg (by simp),zAO (by omega),List.append_assoc]
   exact zXY hx ho hf hxl hol t (k+1) _ g.2.2 (by simp;omega)
theorem zAa7 {f:Int} {s:zAa} {off:List Int} (hx:I64s s.F_X) (ho:I64s off) (hf:0≤f∧f≤30) (hxl:s.F_X.length≤100) (hol:off.length≤100):zJa s off f=some (zNc (mapE (zAR f s.F_X) off)):=by
 have h:=zXY hx ho hf hxl hol off 0 [] rfl (by simp)
 rw [show ((0:Nat):Int)=0 from rfl] at h
 rw [zJa,h,zAb,endC,zNc]
 by_cases h1:(mapE (zAR f s.F_X) off).2≠0
 ·rw [if_pos h1,if_pos h1]
 ·rw [if_neg h1,if_neg h1];rfl
def zBJ (n o:Nat) (w:List Int) (f:Int) (s:zAa):List Int×Int:=if (zCW n o w f s).2≠0 then ([],(zCW n o w f s).2) else zNc (mapE (zAR f s.F_X) (zCW n o w f s).1)
theorem zSb {n o:Nat} {w:List Int} {f:Int} {s:zAa} (hxl:n=s.F_X.length+1):I64s (zBJ n o w f s).1∧((zBJ n o w f s).2=0→(zBJ n o w f s).1.length=o*n)∧((zBJ n o w f s).2≠0→(zBJ n o w f s).1=[]):=by
 unfold zBJ
 by_cases g:(zCW n o w f s).2≠0
 ·rw [if_pos g];exact ⟨fun y hy=>(by cases hy),fun h=>absurd h g,fun _=>rfl⟩
 ·rw [if_neg g,zNc]
  by_cases h:(mapE (zAR f s.F_X) (zCW n o w f s).1).2≠0
  ·rw [if_pos h];exact ⟨fun y hy=>(by cases hy),fun q=>absurd q h,fun _=>rfl⟩
  ·rw [if_neg h]
   refine ⟨?_,fun _=> ?_,fun q=>absurd rfl q⟩
   ·intro y hy
    obtain ⟨v,hv,hy⟩:=List.mem_flatten.1 hy
    exact zEB (P:=fun v:List Int=>I64s v) (zCW n o w f s).1 (fun a ha _=>zSi (zUo a ha)) v hv y hy
   ·have:=zSa (n:=n) (mapE (zAR f s.F_X) (zCW n o w f s).1).1 (zEB (P:=fun v:List Int=>v.length=n) (zCW n o w f s).1 (fun a ha q=>by rw [zJ5.2 q,hxl]))
    simp only
    rw [this,zCk _ _ (by omega),zO6.2 (by omega)]
def zF8 (one:zAa→List Int×Int) (l:List zAa):List Int×Int:=if (mapE one l).2≠0 then ([],(mapE one l).2) else zF0 (l.length:Int) (mapE one l).1
theorem zZM {one:zAa→List Int×Int} {l:List zAa} {m:Nat} (hl:l.length≤64) (h:∀s∈l,I64s (one s).1∧((one s).2=0→(one s).1.length=m)):(mapE one l).1.length≤64∧(∀v∈(mapE one l).1,I64s v)∧(∀v∈(mapE one l).1,v.length=m):=by
 refine ⟨?_,zEB l fun x hx _=>(h x hx).1,zEB l fun x hx q=>(h x hx).2 q⟩
 by_cases g:(mapE one l).2=0
 ·rw [zCk _ _ g];exact hl
 ·rw [zCU _ _ g];simp
theorem zYF {one:zAa→List Int×Int} {l:List zAa} {m:Nat} (hl:l.length≤64) (hm:m≤4096) (h:∀s∈l,I64s (one s).1∧((one s).2=0→(one s).1.length=m)):zEh (l.length:Int) (mapE one l).1=some (zF0 (l.length:Int) (mapE one l).1)∧zCT (l.length:Int) (mapE one l).1=some (zF0 (l.length:Int) (mapE one l).1):=by
 obtain ⟨a1,a2,a3⟩:=zZM hl h
 exact zV5 (by unfold J64;omega) (by omega) a2 (fun v hv=>by rw [a3 v hv];exact hm)
end Go.Proofs.YtnmlihfpenjeiaaGreat.Abs
