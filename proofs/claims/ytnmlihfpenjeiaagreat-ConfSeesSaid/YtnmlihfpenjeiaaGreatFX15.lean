/- Plain facts: how any model is to be bent, with no number too great (mlp, model, vec.Clip, and the document's). Conditions: none. -/
import Derived.Test.YtnmlihfpenjeiaaGreatFX14
namespace Go.Proofs.YtnmlihfpenjeiaaGreat.Abs
open Go Go.RowKit Go.IntWalk
set_option linter.unusedVariables false
set_option linter.unusedSimpArgs false
set_option linter.unnecessarySimpa false
set_option maxRecDepth 100000
theorem zQJ {n h:Nat} {w:List Int} {f:Int} {s:zAa} (hw:w.length=h*n+h+1) (hxl:n=s.F_X.length+1):I64s (mlp1 n h w f s).1∧((mlp1 n h w f s).2=0→(mlp1 n h w f s).1.length=h*n+h+1):=by
 unfold mlp1
 by_cases g2:(zA5 n h w f s).2≠0
 ·rw [if_pos g2];exact ⟨fun y hy=>(by cases hy),fun q=>absurd q g2⟩
 ·have hh0:(hidP n h w s.F_X f).2=0:=zOe (by omega)
  have hl:=zLC hh0
  have hzl:(hidP n h w s.F_X f).1.length≤(w.drop (h*n)).length:=by rw [List.length_drop];omega
  rw [if_neg g2]
  by_cases g3:(mapE (zBP f s.F_X (zA5 n h w f s).1) (List.zip (hidP n h w s.F_X f).1 (w.drop (h*n)))).2≠0
  ·rw [if_pos g3];exact ⟨fun y hy=>(by cases hy),fun q=>absurd q g3⟩
  ·rw [if_neg g3]
   by_cases g4:(zAO f (hidP n h w s.F_X f).1 (zA5 n h w f s).1).2≠0
   ·rw [if_pos g4];exact ⟨fun y hy=>(by cases hy),fun q=>absurd q g4⟩
   ·have hfl:=zM8 hzl hxl (by omega)
    have hsl:=zJa.2 (show (zAO f (hidP n h w s.F_X f).1 (zA5 n h w f s).1).2=0 by omega)
    rw [if_neg g4]
    refine ⟨zOE (fun y hy=> ?_) (zOw zK6),fun _=> ?_⟩
    ·obtain ⟨v,hv,hy⟩:=List.mem_flatten.1 hy
     exact zEr (P:=fun v:List Int=>I64s v) _ (fun p _ _=>zSY.1) v hv y hy
    ·simp only [List.length_append]
     rw [hfl,hsl,hl];omega
theorem zRL {h n:Nat} {w:List Int} {f:Int} {l:List zAa} (hh:1≤h∧h≤8) (hn:2≤n∧n≤17) (hw:w.length=h*n+h+1) (hI:I64s w) (hf:0≤f∧f≤30) (hl:zEj ((n:Int)-1) l) (hs:∀s∈l,sI s):
  zJI (h:Int) w f l=some (zFB (mlp1 n h w f) l)∧zGR (h:Int) w f l=some (zFB (mlp1 n h w f) l):=by
 have hb:=zGf hh.2 hn.2
 have h64:=hl.2
 have h0:(at' (zAE n h w) 0).length=n:=zKE (by omega) (by omega)
 have hlen:(zAE n h w).length=h:=zDA _ _ _
 have hnh:(h:Int)*((n:Int)-1+1)=((h*n:Nat):Int):=by rw [Int.sub_add_cancel];simp
 have hlw:(w.length:Int)=(h:Int)*((n:Int)-1+1)+(h:Int)+1:=by rw [hnh];omega
 have hone:∀s∈l,I64s (mlp1 n h w f s).1∧((mlp1 n h w f s).2=0→(mlp1 n h w f s).1.length=h*n+h+1):=fun s hm=>zQJ hw (by have:=hl.1 s hm;omega)
 obtain ⟨m1,m2⟩:=zUF (one:=mlp1 n h w f) h64.2 (by omega) hone
 rw [zFB]
 refine ⟨?_, ?_⟩
 ·have e:=appE (fun k out=>zCY f l (w.drop (h*n),zAE n h w,(n:Int)-1,0) k out) (mlp1 n h w f) l
   (fun k out hk=>by
    show zCY _ _ _ _ _=_
    rw [zCY,if_neg (by omega)])
   (fun k out s t hx hol=>by
    have g:=zAw hx
    have hm:=zBQ hx
    have hxl:=hl.1 s hm
    show zCY _ _ _ _ _=_
    rw [zCY,if_pos g.1,if_pos ⟨by omega,g.1⟩,g.2.1]
    simp only
    rw [zXw hh hn hw hI (hs s hm) (by omega) hf,zAb,if_pos (zEk (by omega) (by simp;omega)),zAJ (by omega)])
   l 0 [] rfl rfl
  rw [show ((0:Nat):Int)=0 from rfl] at e
  rw [zJI,zXc hh hn hw,zAb]
  simp only
  rw [if_pos trivial,zUK (by omega) (by omega) hl,if_pos hlw,zAb,zAb,if_neg (by simp),e,zAb,endE]
  by_cases g:(mapE (mlp1 n h w f) l).2≠0
  ·rw [if_pos g,if_pos g]
  ·rw [if_neg g,if_neg g]
   simp only
   rw [List.nil_append,m1,zAb]
 ·have e:=appE (fun k out=>zBZ (h:Int) w f l k out) (mlp1 n h w f) l
   (fun k out hk=>by
    show zBZ _ _ _ _ _ _=_
    rw [zBZ,if_neg (by omega)])
   (fun k out s t hx hol=>by
    have g:=zAw hx
    have hm:=zBQ hx
    have hxl:=hl.1 s hm
    show zBZ _ _ _ _ _ _=_
    rw [zBZ,if_pos g.1,if_pos ⟨by omega,g.1⟩,g.2.1,zWZ hh hn hw hI (hs s hm) (by omega) hf,zAb,if_pos (zEk (by omega) (by simp;omega)),zAJ (by omega)])
   l 0 [] rfl rfl
  rw [show ((0:Nat):Int)=0 from rfl] at e
  rw [zGR,zIs hh hn hw,zAb,if_neg (by simp)]
  simp only
  rw [if_pos ⟨by omega,by omega⟩,h0,i64_in _ (by omega),zUW (by omega) (by omega) hl,if_pos hlw,zAb,if_neg (by simp),e,zAb,endE]
  by_cases g:(mapE (mlp1 n h w f) l).2≠0
  ·rw [if_pos g,if_pos g]
  ·rw [if_neg g,if_neg g]
   simp only
   rw [List.nil_append,m2,zAb]
def zGx (m x:Int):Int:=if x>m then m else if x< -m then -m else x
theorem zXQ {m x:Int} (hm:0≤m): -m≤zGx m x∧zGx m x≤m:=by unfold zGx;split;omega;split<;>omega
theorem zSX {x m:Int} (hm:0≤m∧J64 m):zHP x m=some (zGx m x,0):=by
 have hw:IntKind.i64.wrap (0-m)= -m:=by unfold J64 at hm;rw [i64_in _ (by omega)];omega
 rw [zHP,if_neg (by omega),hw,zGx]
 have:(if m<(if -m>x then -m else x) then m else if -m>x then -m else x)=(if x>m then m else if x< -m then -m else x):=by
  by_cases a: -m>x
  ·rw [if_pos a,if_neg (by omega),if_neg (by omega)]
  ·rw [if_neg a]
 rw [this]
theorem zQr {α β:Type} (f:α→β):∀l:List α,mapE (fun x=>(f x,0)) l=(l.map f,0)
 | []=>rfl
 | x::t=>by rw [mapE,zQr f t];simp
theorem zX0 {v:List Int} {m:Int} (hl:v.length≤4096) (hm:0≤m∧J64 m):zJj v m=some (v.map (zGx m),0)∧zGF v m=some (v.map (zGx m),0):=by
 have hw:IntKind.i64.wrap (0-m)= -m:=by have:=hm.2;unfold J64 at this;rw [i64_in _ (by omega)];omega
 refine ⟨?_, ?_⟩
 ·have e:=setE (fun k out=>zA7 v m (List.replicate v.length 0) k out) (fun x=>(zGx m x,0)) v
   (fun k out hk=>by
    show zA7 _ _ _ _ _=_
    rw [zA7,if_neg (by simp;omega)])
   (fun k out x t hx ho=>by
    have g:=zAw hx
    show zA7 _ _ _ _ _=_
    rw [zA7,if_pos (by simp;omega),zHk,if_pos ⟨by omega,g.1⟩,g.2.1,zSX hm,zAb,zAb,if_pos ⟨by omega,by omega⟩,zAb,Int.toNat_natCast,zAJ (by omega)])
   v 0 [] (List.replicate v.length 0) rfl rfl (by simp)
  rw [show ((0:Nat):Int)=0 from rfl,List.nil_append,zQr] at e
  rw [zJj,zLZ hl,zAb,if_pos rfl,zSX hm,zAb,zAb,if_neg (by simp),zEW,if_pos (by omega),zAb,Int.toNat_natCast,e];rfl
 ·have e:=appE (γ:=Int) (fun k out=>(zBo v m k out).map .inr) (fun x=>(zGx m x,0)) v
   (fun k out hk=>by
    show (zBo _ _ _ _).map _=_
    rw [zBo,if_neg (by omega)];rfl)
   (fun k out x t hx ho=>by
    have g:=zAw hx
    have ec:(if (if m<x then m else x)> -m then (if m<x then m else x) else -m)=zGx m x:=by
     unfold zGx
     by_cases a:m<x
     ·rw [if_pos a,if_pos (show x>m from a)]
      by_cases b:m> -m
      ·rw [if_pos b]
      ·rw [if_neg b];omega
     ·rw [if_neg a,if_neg (show ¬x>m from a)]
      by_cases b:x> -m
      ·rw [if_pos b,if_neg (by omega)]
      ·rw [if_neg b]
       by_cases c:x< -m
       ·rw [if_pos c]
       ·rw [if_neg c];omega
    show (zBo _ _ _ _).map _=_
    rw [zBo,if_pos g.1,if_pos ⟨by omega,g.1⟩,g.2.1,hw,ec,if_pos (zB2 (by simp;omega)),zAb,zAJ (by omega),if_neg (by simp)])
   v 0 [] rfl rfl
  rw [show ((0:Nat):Int)=0 from rfl,zQr,endE,if_neg (by simp)] at e
  have e2:zBo v m 0 []=some (v.map (zGx m)):=by
   cases q:zBo v m 0 [] with
   | none=>rw [q] at e;cases e
   | some r=>rw [q] at e;simpa using e
  rw [zGF,if_neg (by omega),if_neg (by omega),e2,zAb]
end Go.Proofs.YtnmlihfpenjeiaaGreat.Abs
