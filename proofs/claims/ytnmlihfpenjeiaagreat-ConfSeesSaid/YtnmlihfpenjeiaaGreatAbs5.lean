/- Code in pieces: what is still to be run, as a list; states that tell less. Conditions: none. -/
import Derived.Test.YtnmlihfpenjeiaaGreatAbs4
import Derived.LoopN
import Derived.RangeFuncIn
import Derived.OrdersIn
import Derived.TacticsIn
import Derived.RangeFuncSeq
namespace Go.Proofs.YtnmlihfpenjeiaaGreat.Abs
open Go Go.RowKit
set_option linter.unusedVariables false
set_option linter.unusedSimpArgs false
def Sub (st st':St):Prop:=∀E w tmps,zAm E w→StR E w st tmps→∃E',zAm E' w∧StR E' w st' tmps∧Step E w E' w
theorem Sub.refl (st:St):Sub st st:=fun E w tmps h1 h2=>⟨E,h1,h2,Step.refl _ _⟩
theorem Sub.trans {a b c:St} (h:Sub a b) (k:Sub b c):Sub a c:=fun E w tmps h1 h2=>by
 obtain ⟨E1,g1,g2,g3⟩:=h E w tmps h1 h2
 obtain ⟨E2,g4,g5,g6⟩:=k E1 w tmps g1 g2
 exact ⟨E2,g4,g5,g3.trans g6⟩
theorem Sub.le {st st':St} {ρ:List (Tg×Tg)} (h:St.le ρ st st'):Sub st st':=fun E w tmps h1 h2=>⟨E.ren ρ,h1.ren h.1,h2.le h,Step.ren E w ρ⟩
theorem Sub.frz (st:St) (ts:List Tg):Sub st (st.frz ts):=fun E w tmps h1 h2=>⟨E.frz ts,h1.frz ts,StR.frz h1 h2 ts,Step.frz h1 ts⟩
section
variable {P:Program} {N:Nat}
theorem Told.sub {E0:Env} {w0:World} {d0:List Deferred} {E:Env} {w:World} {st st':St} {a:Act} (h:Told N E0 w0 d0 E w st a) (hs:Sub st st'):∃E',Told N E0 w0 d0 E' w st' a:=by
 obtain ⟨E',g1,g2,g3⟩:=hs E w a.tmps h.valid h.str
 exact ⟨E',h.size,h.defers,g1,g2,h.step.trans g3⟩
theorem Tld.sub {E0:Env} {w0:World} {d0:List Deferred} {E:Env} {w:World} {st st':St} {a:Act} (h:Tld N E0 w0 d0 E w st a) (hs:Sub st st'):∃E',Tld N E0 w0 d0 E' w st' a:=by
 obtain ⟨E',g1,g2,g3⟩:=hs E w a.tmps h.valid h.str
 exact ⟨E',h.to g1 g2 g3⟩
theorem EvC.sub {ac:AC} {st st':St} {Q:Kd→St→Prop} (h:EvC P N ac st' Q) (hs:Sub st st'):EvC P N ac st Q:=by
 intro c hc E w a h1 h2 h3
 obtain ⟨E1,g1,g2,g3⟩:=hs E w a.tmps h2 h3
 refine wp_mono (h c hc E1 w a h1 g1 g2) ?_
 rintro e a' w' ⟨k,st2,E',r1,r2,r3⟩
 exact ⟨k,st2,E',r1,r2,Tld.from g3 r3⟩
def EvO (P:Program) (N:Nat) (al:List zAo) (st:St) (K:St→Prop):Prop:=
 ∀(E0:Env) (w0:World) (d0:List Deferred) (ops:Array Oper) (Q:Exit→Act→World→Prop),(∀E w st a,Told N E0 w0 d0 E w st a→K st→Q .normal a w)→
  ∀(l:List Oper) (n:Nat),zAT P N ops n l=some al→∀E w a,Told N E0 w0 d0 E w st a→wpList P ops Q l a w
theorem EvO.sub {al:List zAo} {st st':St} {K:St→Prop} (h:EvO P N al st' K) (hs:Sub st st'):EvO P N al st K:=by
 intro E0 w0 d0 ops Q hQ l n hl E w a hT
 obtain ⟨E',hT'⟩:=hT.sub hs
 exact h E0 w0 d0 ops Q hQ l n hl E' w a hT'
theorem EvO.mono {al:List zAo} {st:St} {K K':St→Prop} (h:EvO P N al st K) (hk:∀s,K s→K' s):EvO P N al st K':=
 fun E0 w0 d0 ops Q hQ=>h E0 w0 d0 ops Q fun E w st a hT hK=>hQ E w st a hT (hk _ hK)
theorem zYW {st:St} {K:St→Prop} (h:K st):EvO P N [] st K:=by
 intro E0 w0 d0 ops Q hQ l n hl E w a hT
 cases l with
 | nil=>exact hQ E w st a hT h
 | cons o l=>
  simp only [zAT] at hl
  split at hl<;>cases hl
theorem zSV {o:zAo} {rest:List zAo} {st:St} {K:St→Prop} (hg:o.guard=none) (h:zAY P o.n o.op st fun v st'=>EvO P N rest (st'.putO o.dst v) K):EvO P N (o::rest) st K:=by
 intro E0 w0 d0 ops Q hQ l n hl E w a hT
 cases l with
 | nil=>simp [zAT] at hl
 | cons oo l=>
  simp only [zAT] at hl
  split at hl
  ·rename_i ao as h1 h2
   simp only [Option.some.injEq,List.cons.injEq] at hl
   obtain ⟨rfl,rfl⟩:=hl
   obtain ⟨g1,g2,g3,g4⟩:=zCe h1
   rw [hg] at g2
   have hw:Region.wanted oo (yielded ops a.tmps)=true:=by
    unfold zFO at g2
    split at g2
    ·rename_i hog;simp [Region.wanted,hog]
    ·split at g2<;>cases g2
   simp only [wpList,hw,if_true]
   exact .inl (zKK hT.valid hT.str g3 h fun u w' E' p st' k1 k2 k3 k4 k5=>k5 E0 w0 d0 ops Q hQ l (n+1) h2 E' w' _ (by rw [g4];exact hT.put g1 k1 k2 k3 k4))
  ·cases hl
theorem zMq {o:zAo} {rest:List zAo} {st:St} {K:St→Prop} {t:Nat} {b g:Bool} (hg:o.guard=some (t,b)) (ht:st.get t=some (.d (.bool g)))
  (h1:g=b→zAY P o.n o.op (st.lit t b) fun v st'=>EvO P N rest (st'.putO o.dst v) K) (h0:g= !b→EvO P N rest ((st.lit t (!b)).putO o.dst (.tup [])) K):EvO P N (o::rest) st K:=by
 intro E0 w0 d0 ops Q hQ l n hl E w a hT
 cases l with
 | nil=>simp [zAT] at hl
 | cons oo l=>
  simp only [zAT] at hl
  split at hl
  ·rename_i ao as h2 h3
   simp only [Option.some.injEq,List.cons.injEq] at hl
   obtain ⟨rfl,rfl⟩:=hl
   obtain ⟨g1,g2,g3,g4⟩:=zCe h2
   rw [hg] at g2
   obtain ⟨u,hu1,hu2⟩:=hT.str.get ht
   simp only [VR,DR] at hu2;subst hu2
   have hw:=zHw g2 hu1
   simp only [wpList,hw]
   by_cases hgb:g=b
   ·subst hgb
    simp only [beq_self_eq_true,if_true]
    exact .inl (zKK (hT.lit hu1).valid (hT.lit hu1).str g3 (h1 rfl) fun u w' E' p st' k1 k2 k3 k4 k5=>k5 E0 w0 d0 ops Q hQ l (n+1) h3 E' w' _ (by rw [g4];exact (hT.lit hu1).put g1 k1 k2 k3 k4))
   ·have:(g==b)=false:=by simpa using hgb
    simp only [this,Bool.false_eq_true,if_false]
    have hgn:g= !b:=by cases g<;>cases b<;>simp_all
    have h0':=h0 hgn
    rw [hgn] at hu1
    exact h0' E0 w0 d0 ops Q hQ l (n+1) h3 E w _ (by rw [g4];exact (hT.lit hu1).un g1)
  ·cases hl
theorem zWB {o:zAo} {rest:List zAo} {st:St} {K:St→Prop} {t:Nat} {b:Bool} (hg:o.guard=some (t,b)) (ht:st.get t=some (.tup []))
  (h:EvO P N rest (st.putO o.dst (.tup [])) K):EvO P N (o::rest) st K:=by
 intro E0 w0 d0 ops Q hQ l n hl E w a hT
 cases l with
 | nil=>simp [zAT] at hl
 | cons oo l=>
  simp only [zAT] at hl
  split at hl
  ·rename_i ao as h2 h3
   simp only [Option.some.injEq,List.cons.injEq] at hl
   obtain ⟨rfl,rfl⟩:=hl
   obtain ⟨g1,g2,g3,g4⟩:=zCe h2
   rw [hg] at g2
   obtain ⟨u,hu1,hu2⟩:=hT.str.get ht
   have:=zH4 hu2;subst this
   have hw:=zE4 g2 hu1
   simp only [wpList,hw,Bool.false_eq_true,if_false]
   exact h E0 w0 d0 ops Q hQ l (n+1) h3 E w _ (by rw [g4];exact hT.un g1)
  ·cases hl
def LW (P:Program) (c:Code) (Q:Exit→Act→World→Prop) (a:Act) (w:World):Prop:=
 ∀(b:Frame) (k:List Item) (cs:List Frame),∃e a' w',Q e a' w'∧Arrives P (lone (b.at a (.code c:: .inLoop c::k)) cs w) b k cs e a' w'
theorem zWL {c:Code} {Q:Exit→Act→World→Prop} {a:Act} {w:World} (h:c.wp P (Exit.then (LW P c Q) Q) a w):LW P c Q a w:=by
 intro b k cs
 obtain ⟨e,a₁,w₁,hq,harr⟩:=h b (.inLoop c::k) cs
 cases e with
 | normal=>
  obtain ⟨e₂,a₂,w₂,hq₂,harr₂⟩:=hq b k cs
  exact ⟨e₂,a₂,w₂,hq₂, .of_steps (Steps.trans harr (.one step_inLoop)) harr₂⟩
 | exit id=>exact ⟨_,a₁,w₁,hq, .pass (x:= .inLoop c) rfl (fun _ _=> .inl (by simp)) harr⟩
 | goto l=>exact ⟨_,a₁,w₁,hq, .pass (x:= .inLoop c) rfl (fun _ _=> .inl (by simp)) harr⟩
 | ret=>exact ⟨_,a₁,w₁,hq, .pass (x:= .inLoop c) rfl (fun _ _=> .inl (by simp)) harr⟩
 | panic ch=>exact ⟨_,a₁,w₁,hq, .pass (x:= .inLoop c) rfl (fun _ _=> .inl (by simp)) harr⟩
 | outgrown=>exact ⟨_,a₁,w₁,hq, .pass (x:= .inLoop c) rfl (fun _ _=> .inl (by simp)) harr⟩
theorem zYw {c:Code} {Q:Exit→Act→World→Prop} {a:Act} {w:World} (h:LW P c Q a w):(Code.loop c).wp P Q a w:=by
 intro b k cs
 obtain ⟨e,a',w',hq,harr⟩:=h b k cs
 exact ⟨e,a',w',hq, .of_steps (.one step_loop) harr⟩
theorem zQl {c:Code} {Q Q':Exit→Act→World→Prop} {a:Act} {w:World} (h:LW P c Q a w) (hq:∀e a w,Q e a w→Q' e a w):LW P c Q' a w:=
 fun b k cs=>let ⟨e,a',w',q,r⟩:=h b k cs;⟨e,a',w',hq _ _ _ q,r⟩
def EvL (P:Program) (N:Nat) (ac:AC) (st:St) (Q:Kd→St→Prop):Prop:=
 ∀c,tr P N c=some ac→∀E w a,a.tmps.size=N→zAm E w→StR E w st a.tmps→LW P c (fun e a' w'=>∃k st' E',e=k.ex∧Q k st'∧Tld N E w a.defers E' w' st' a') a w
theorem EvL.sub {ac:AC} {st st':St} {Q:Kd→St→Prop} (h:EvL P N ac st' Q) (hs:Sub st st'):EvL P N ac st Q:=by
 intro c hc E w a h1 h2 h3
 obtain ⟨E1,g1,g2,g3⟩:=hs E w a.tmps h2 h3
 refine zQl (h c hc E1 w a h1 g1 g2) ?_
 rintro e a' w' ⟨k,st2,E',r1,r2,r3⟩
 exact ⟨k,st2,E',r1,r2,Tld.from g3 r3⟩
theorem EvL.mono {ac:AC} {st:St} {Q Q':Kd→St→Prop} (h:EvL P N ac st Q) (hq:∀k s,Q k s→Q' k s):EvL P N ac st Q':=by
 intro c hc E w a h1 h2 h3
 refine zQl (h c hc E w a h1 h2 h3) ?_
 rintro e a' w' ⟨k,st2,E',r1,r2,r3⟩
 exact ⟨k,st2,E',r1,hq _ _ r2,r3⟩
theorem zVh {ac:AC} {st:St} {Q:Kd→St→Prop} (h:EvC P N ac st fun k s=>match k with | .norm=>EvL P N ac s Q | k=>Q k s):EvL P N ac st Q:=by
 intro c hc E w a h1 h2 h3
 refine zWL (wp_mono (h c hc E w a h1 h2 h3) ?_)
 rintro e a' w' ⟨k,st2,E',rfl,r2,r3⟩
 cases k with
 | norm=>
  refine zQl (r2 c hc E' w' a' r3.size r3.valid r3.str) ?_
  rintro e a2 w2 ⟨k,st3,E2,q1,q2,q3⟩
  exact ⟨k,st3,E2,q1,q2,r3.trans q3⟩
 | exit i=>exact ⟨.exit i,st2,E',rfl,r2,r3⟩
 | ret=>exact ⟨.ret,st2,E',rfl,r2,r3⟩
theorem zXA {ac:AC} {st:St} {Q:Kd→St→Prop} (h:EvL P N ac st Q):EvC P N (.loop ac) st Q:=by
 intro c hc
 cases c<;>simp only [tr] at hc
 case loop b=>
  simp only [Option.map_eq_some_iff] at hc
  obtain ⟨a',h1,h2⟩:=hc
  cases h2
  intro E w a g1 g2 g3
  exact zYw (h b h1 E w a g1 g2 g3)
 all_goals (repeat' split at hc)<;>first | (rcases zA6 hc with ⟨_,h,_⟩ | ⟨_,h,_⟩<;>cases h;done) | (simp only [Option.map_eq_some_iff] at hc;obtain ⟨_,_,hc⟩:=hc;cases hc;done) | (cases hc;done) | (obtain ⟨_,_,hc⟩:=hc;cases hc;done) | (simp only [Option.some.injEq] at hc;split at hc<;>cases hc;done)
end
inductive Fr where
 | c (a:AC)
 | b (id:Nat)
 | o (x:Bool) (ops:List zAo)
 | l (a:AC)
 | h (S:List zAo)
 deriving Inhabited
def go (P:Program) (N:Nat) (Q:Kd→St→Prop):List Fr→Kd→St→Prop
 | [],k,st=>∃st2,Sub st st2∧Q k st2
 | .c a::ks,k,st=>match k with
  | .norm=>EvC P N a st (go P N Q ks)
  | k=>go P N Q ks k st
 | .o x ops::ks,k,st=>match k with
  | .norm=>bif x then zBC P ops st (go P N Q ks .norm) else EvO P N ops st (go P N Q ks .norm)
  | k=>go P N Q ks k st
 | .l a::ks,k,st=>match k with
  | .norm=>EvL P N a st (go P N Q ks)
  | k=>go P N Q ks k st
 | .h S::ks,k,st=>match k with
  | .norm=>zBT S st∧go P N Q ks .norm st
  | k=>go P N Q ks k st
 | .b j::ks,k,st=>match k with
  | .exit i=>if i=j then go P N Q ks .norm st else go P N Q ks (.exit i) st
  | k=>go P N Q ks k st
section
variable {P:Program} {N:Nat} {Q:Kd→St→Prop}
def cl:List Fr→Kd→Bool
 | [],_=>true
 | .c a::ks,k=>match k with
  | .norm=>true
  | k=>cl ks k
 | .o x ops::ks,k=>match k with
  | .norm=> !x
  | k=>cl ks k
 | .l a::ks,k=>match k with
  | .norm=>true
  | k=>cl ks k
 | .h S::ks,k=>match k with
  | .norm=>false
  | k=>cl ks k
 | .b j::ks,k=>match k with
  | .exit i=>cl ks .norm&&cl ks (.exit i)
  | k=>cl ks k
theorem go_sub:∀{ks:List Fr} {k:Kd} {st st':St},cl ks k=true→go P N Q ks k st'→Sub st st'→go P N Q ks k st
 | [],k,st,st',_,⟨st2,h1,h2⟩,hs=>⟨st2,hs.trans h1,h2⟩
 | .c a::ks, .norm,st,st',_,h,hs=>EvC.sub h hs
 | .c a::ks, .exit i,st,st',hc,h,hs=>go_sub (ks:=ks) hc h hs
 | .c a::ks, .ret,st,st',hc,h,hs=>go_sub (ks:=ks) hc h hs
 | .o x a::ks, .norm,st,st',hc,h,hs=>by
  cases x with
  | true=>simp [cl] at hc
  | false=>exact EvO.sub h hs
 | .o x a::ks, .exit i,st,st',hc,h,hs=>go_sub (ks:=ks) hc h hs
 | .o x a::ks, .ret,st,st',hc,h,hs=>go_sub (ks:=ks) hc h hs
 | .l a::ks, .norm,st,st',_,h,hs=>EvL.sub h hs
 | .l a::ks, .exit i,st,st',hc,h,hs=>go_sub (ks:=ks) hc h hs
 | .l a::ks, .ret,st,st',hc,h,hs=>go_sub (ks:=ks) hc h hs
 | .h a::ks, .norm,st,st',hc,h,hs=>by simp [cl] at hc
 | .h a::ks, .exit i,st,st',hc,h,hs=>go_sub (ks:=ks) hc h hs
 | .h a::ks, .ret,st,st',hc,h,hs=>go_sub (ks:=ks) hc h hs
 | .b j::ks, .norm,st,st',hc,h,hs=>go_sub (ks:=ks) hc h hs
 | .b j::ks, .exit i,st,st',hc,h,hs=>by
  simp only [cl,Bool.and_eq_true] at hc
  simp only [go] at h⊢
  split
  ·rename_i hi;rw [if_pos hi] at h;exact go_sub hc.1 h hs
  ·rename_i hi;rw [if_neg hi] at h;exact go_sub hc.2 h hs
 | .b j::ks, .ret,st,st',hc,h,hs=>go_sub (ks:=ks) hc h hs
theorem zX4 {st:St} {R:Kd→St→Prop} (h:R .norm st):EvC P N .skip st R:=zEM .skip st R h
theorem zXG {i:Nat} {st:St} {R:Kd→St→Prop} (h:R (.exit i) st):EvC P N (.exit i) st R:=zEM (.exit i) st R h
theorem zY6 {st:St} {R:Kd→St→Prop} (h:R .ret st):EvC P N .ret st R:=zEM .ret st R h
theorem zYQ {al:List zAo} {st:St} {R:Kd→St→Prop} (h:EvO P N al st (R .norm)):EvC P N (.reg al) st R:=by
 intro c hc
 cases c<;>simp only [tr] at hc
 case region id os draw=>
  split at hc
  ·rename_i as h1
   split at hc
   ·rcases zA6 hc with ⟨its',h3,h2⟩ | ⟨its',h3,h2⟩<;>cases h3
   ·rename_i hd;cases hc;cases draw
    ·intro E w a g1 g2 g3
     refine wp_region_list ?_
     exact h E w a.defers os _ (fun E' w' st' a' hT hk=>⟨.norm,st',E',rfl,hk,hT.tld⟩) _ _ h1 E w a ⟨g1,rfl,g2,g3,Step.refl _ _⟩
    ·exact absurd rfl hd
  ·cases hc
 all_goals (repeat' split at hc)<;>first | (rcases zA6 hc with ⟨_,h,_⟩ | ⟨_,h,_⟩<;>cases h;done) | (simp only [Option.map_eq_some_iff] at hc;obtain ⟨_,_,hc⟩:=hc;cases hc;done) | (cases hc;done) | (obtain ⟨_,_,hc⟩:=hc;cases hc;done)
theorem zVZ {l:List (List DIt)} {st:St} {R:Kd→St→Prop} (h:∀its∈l,zAV P its st (R .norm)):EvC P N (.draws l) st R:=zEM (.draws l) st R h
theorem zTv {its:List DIt} {st:St} {R:Kd→St→Prop} (h:zAV P its st (R .norm)):EvC P N (.draw its) st R:=zEM (.draw its) st R h
theorem zYv {x y:AC} {st:St} {R:Kd→St→Prop} (h:EvC P N x st fun k s=>match k with | .norm=>EvC P N y s R | k=>R k s):EvC P N (.seq x y) st R:=by
 intro c hc
 cases c<;>simp only [tr] at hc
 case seq a b=>
  split at hc
  ·rename_i a' b' h1 h2
   cases hc
   refine zWq ((h a h1).mono fun k s hk=> ?_)
   cases k with
   | norm=>exact hk b h2
   | _=>exact hk
  ·cases hc
 all_goals (repeat' split at hc)<;>first | (rcases zA6 hc with ⟨_,h,_⟩ | ⟨_,h,_⟩<;>cases h;done) | (simp only [Option.map_eq_some_iff] at hc;obtain ⟨_,_,hc⟩:=hc;cases hc;done) | (cases hc;done) | (obtain ⟨_,_,hc⟩:=hc;cases hc;done) | (simp only [Option.some.injEq] at hc;split at hc<;>cases hc;done)
theorem zTl {o:Opd} {x y:AC} {st:St} {R:Kd→St→Prop} {t:Bool} (ht:st.val o=some (.d (.bool t))) (h1:t=true→EvC P N x (st.litO o true) R) (h0:t=false→EvC P N y (st.litO o false) R):EvC P N (.cond o x y) st R:=by
 intro c hc
 cases c<;>simp only [tr] at hc
 case cond c a b=>
  split at hc
  ·rename_i c' a' b' g0 g1 g2
   cases hc
   exact zUs g0 ht (fun e=>h1 e a g1) (fun e=>h0 e b g2)
  ·cases hc
 all_goals (repeat' split at hc)<;>first | (rcases zA6 hc with ⟨_,h,_⟩ | ⟨_,h,_⟩<;>cases h;done) | (simp only [Option.map_eq_some_iff] at hc;obtain ⟨_,_,hc⟩:=hc;cases hc;done) | (cases hc;done) | (obtain ⟨_,_,hc⟩:=hc;cases hc;done) | (simp only [Option.some.injEq] at hc;split at hc<;>cases hc;done)
theorem zWy {i:Nat} {x:AC} {st:St} {R:Kd→St→Prop} (h:EvC P N x st fun k s=>match k with | .exit j=>if j=i then R .norm s else R (.exit j) s | k=>R k s):EvC P N (.block i x) st R:=by
 intro c hc
 cases c<;>simp only [tr] at hc
 case block i x=>
  simp only [Option.map_eq_some_iff] at hc
  obtain ⟨a',h1,h2⟩:=hc
  cases h2
  refine zSI ((h x h1).mono fun k s hk=> ?_)
  cases k<;>exact hk
 all_goals (repeat' split at hc)<;>first | (rcases zA6 hc with ⟨_,h,_⟩ | ⟨_,h,_⟩<;>cases h;done) | (simp only [Option.map_eq_some_iff] at hc;obtain ⟨_,_,hc⟩:=hc;cases hc;done) | (cases hc;done) | (obtain ⟨_,_,hc⟩:=hc;cases hc;done)
end
end Go.Proofs.YtnmlihfpenjeiaaGreat.Abs
namespace Go.Proofs.YtnmlihfpenjeiaaGreat.Abs
open Go Go.RowKit
set_option linter.unusedVariables false
set_option linter.unusedSimpArgs false
def cck (op:AOp) (f:Opd→Option PV) (bx:Tg→Option (List PV)):Bool:=
 match op with
 | .mov _ | .convI _ _ | .convIF _ _ | .nilck _ | .mkif _ _ | .mkfn _ _ _ | .fieldA _ _ | .extract _ _ | .len _ | .lenS _ | .capN _ | .build _ _ | .mnmx _ _ _ | .mn3 _ _ _ | .tass _ _ _ | .un _ _ | .pick _ _ _ | .eqA _ _ _ _ _ | .lookB _ _ _ | .lookD _ _ _ _ _ | .mlen _=>true
 | .bin op bt x y=>match op with
  | .quo | .rem=>match f y with
   | some (.d (.int _ n))=>decide (n≠0)
   | _=>false
  | .shl | .shr=>match f y with
   | some (.d (.int _ n))=>decide (0≤n)
   | _=>false
  | _=>true
 | .field ag off sz x=>match f x with
  | some (.d (.agg cs))=>bif ag then decide (off+sz≤cs.length) else decide (off<cs.length)
  | some (.agg cs)=>bif ag then decide (off+sz≤cs.length) else decide (off<cs.length)
  | _=>false
 | .load ag sz a=>match f a with
  | some (.ptr k o)=>match bx k with
   | some cs=>bif ag then decide (o+sz≤cs.length) else decide (o<cs.length)
   | none=>false
  | some (.ep t sz' i g (some e))=>bif ag then decide (g.getD 0+sz≤e.cells.length) else decide (g.getD 0<e.cells.length)
  | some (.d (.cp cs g))=>bif ag then decide (g+sz≤cs.length) else decide (g<cs.length)
  | _=>false
 | .idxAr _ len _ i=>match ix f i with
  | some (_,n)=>decide (0≤n)&&decide (n<(len:Int))
  | none=>false
 | _=>false
theorem zMr {bt:BT} {a:PV} {c:Prop} {n:Bool} (h:zHq bt a=some (c,n)):c:=by
 unfold zHq at h
 (repeat' split at h)<;>first | (cases h;trivial) | (cases h)
theorem zWg {op:BinOp} {x y:ByteArray} {c:Prop} {v:D} (h:sRes op x y=some (c,v)):c:=by
 cases op<;>first | (cases h;trivial) | cases h
theorem zMW {op:AOp} {f:Opd→Option PV} {bx:Tg→Option (List PV)} {c:Prop} {v:PV} (hr:rop op f bx=some (c,v)) (hc:cck op f bx=true):c:=by
 cases op with
 | mov x=>simp only [rop,Option.some.injEq,Prod.mk.injEq] at hr;obtain ⟨rfl,_⟩:=hr;trivial
 | convI k x | convIF k x=>simp only [rop] at hr;split at hr<;>first | (simp only [Option.some.injEq,Prod.mk.injEq] at hr;obtain ⟨rfl,_⟩:=hr;trivial) | cases hr
 | nilck x=>simp only [rop] at hr;(repeat' split at hr)<;>first | (simp only [Option.some.injEq,Prod.mk.injEq] at hr;obtain ⟨rfl,_⟩:=hr;trivial) | cases hr
 | mkif t x=>simp only [rop] at hr;split at hr<;>first | (simp only [Option.some.injEq,Prod.mk.injEq] at hr;obtain ⟨rfl,_⟩:=hr;trivial) | cases hr
 | mkfn fn a b=>simp only [rop] at hr;split at hr<;>first | (simp only [Option.some.injEq,Prod.mk.injEq] at hr;obtain ⟨rfl,_⟩:=hr;trivial) | cases hr
 | fieldA o x=>simp only [rop] at hr;(repeat' split at hr)<;>first | (simp only [Option.some.injEq,Prod.mk.injEq] at hr;obtain ⟨rfl,_⟩:=hr;trivial) | cases hr
 | len x=>simp only [rop] at hr;split at hr<;>first | (simp only [Option.some.injEq,Prod.mk.injEq] at hr;obtain ⟨rfl,_⟩:=hr;trivial) | cases hr
 | capN x=>simp only [rop] at hr;split at hr<;>first | (simp only [Option.some.injEq,Prod.mk.injEq] at hr;obtain ⟨rfl,_⟩:=hr;trivial) | cases hr
 | lenS x=>simp only [rop] at hr;split at hr<;>first | (simp only [Option.some.injEq,Prod.mk.injEq] at hr;obtain ⟨rfl,_⟩:=hr;trivial) | cases hr
 | eqA ng k l x y=>simp only [rop] at hr;(repeat' split at hr)<;>first | (simp only [Option.some.injEq,Prod.mk.injEq] at hr;obtain ⟨rfl,_⟩:=hr;trivial) | cases hr
 | mnmx m x y=>simp only [rop] at hr;split at hr<;>first | (simp only [Option.some.injEq,Prod.mk.injEq] at hr;obtain ⟨rfl,_⟩:=hr;trivial) | cases hr
 | mn3 x y z=>simp only [rop] at hr;split at hr<;>first | (simp only [Option.some.injEq,Prod.mk.injEq] at hr;obtain ⟨rfl,_⟩:=hr;trivial) | cases hr
 | pick a b d=>simp only [rop] at hr;split at hr<;>first | (simp only [Option.some.injEq,Prod.mk.injEq] at hr;obtain ⟨rfl,_⟩:=hr;trivial) | cases hr
 | extract x j=>
  simp only [rop] at hr
  split at hr
  ·split at hr
   ·simp only [Option.some.injEq,Prod.mk.injEq] at hr;obtain ⟨rfl,_⟩:=hr;trivial
   ·cases hr
  ·cases hr
 | lookB ok m k=>simp only [rop] at hr;(repeat' split at hr)<;>first | (simp only [Option.some.injEq,Prod.mk.injEq] at hr;obtain ⟨rfl,_⟩:=hr;trivial) | cases hr
 | lookD kk z ok m k=>simp only [rop] at hr;(repeat' split at hr)<;>first | (simp only [Option.some.injEq,Prod.mk.injEq] at hr;obtain ⟨rfl,_⟩:=hr;trivial) | cases hr
 | mlen m=>simp only [rop] at hr;(repeat' split at hr)<;>first | (simp only [Option.some.injEq,Prod.mk.injEq] at hr;obtain ⟨rfl,_⟩:=hr;trivial) | cases hr
 | tass x t ok=>
  simp only [rop] at hr
  split at hr
  ·split at hr
   ·simp only [Option.some.injEq,Prod.mk.injEq] at hr;obtain ⟨rfl,_⟩:=hr;trivial
   ·cases hr
  ·split at hr
   ·simp only [Option.some.injEq,Prod.mk.injEq] at hr;obtain ⟨rfl,_⟩:=hr;trivial
   ·cases hr
  ·cases hr
 | build z parts=>
  simp only [rop] at hr
  split at hr
  ·simp only [Option.map_eq_some_iff,Prod.mk.injEq] at hr;obtain ⟨_,_,rfl,_⟩:=hr;trivial
  ·cases hr
 | un op x=>
  simp only [rop] at hr
  split at hr
  ·unfold zRK at hr
   split at hr<;>first | (simp only [Option.some.injEq,Prod.mk.injEq] at hr;obtain ⟨rfl,_⟩:=hr;trivial) | cases hr
  ·cases hr
 | bin op bt x y=>
  simp only [rop] at hr
  split at hr
  ·rename_i a b h1 h2
   unfold zO0 at hr
   split at hr
   ·rename_i k x k' y
    simp only [cck,h2] at hc
    split at hr
    ·simp only [Option.some.injEq,Prod.mk.injEq] at hr;obtain ⟨rfl,_⟩:=hr;simpa using hc
    ·simp only [Option.some.injEq,Prod.mk.injEq] at hr;obtain ⟨rfl,_⟩:=hr;simpa using hc
    ·split at hr
     ·simp only [Option.map_eq_some_iff,Prod.mk.injEq] at hr
      obtain ⟨q,h3,h4,_⟩:=hr
      subst h4
      cases op<;>simp only [iRes,Option.some.injEq] at h3<;>first | (subst h3;trivial) | (subst h3;simpa using hc) | cases h3
     ·cases hr
   ·split at hr<;>first | (simp only [Option.some.injEq,Prod.mk.injEq] at hr;obtain ⟨rfl,_⟩:=hr;trivial) | cases hr
   ·simp only [Option.map_eq_some_iff,Prod.mk.injEq] at hr
    obtain ⟨q,h3,h4,_⟩:=hr
    subst h4
    exact zWg h3
   ·split at hr
    ·rename_i g1 g2;simp only [Option.some.injEq,Prod.mk.injEq] at hr;obtain ⟨rfl,_⟩:=hr;exact zMr g1
    ·rename_i g1 g2;simp only [Option.some.injEq,Prod.mk.injEq] at hr;obtain ⟨rfl,_⟩:=hr;exact zMr g1
    ·cases hr
  ·cases hr
 | field ag off sz x=>
  simp only [rop] at hr
  simp only [cck] at hc
  split at hr
  ·rename_i cs h1
   rw [h1] at hc
   cases ag<;>simp at hr hc<;>exact hr.1.mp hc
  ·rename_i cs h1
   rw [h1] at hc
   cases ag<;>simp at hr hc<;>exact hr.1.mp hc
  ·cases hr
 | load ag sz a=>
  simp only [rop] at hr
  simp only [cck] at hc
  split at hr
  ·rename_i k o h1
   rw [h1] at hc
   split at hr
   ·cases hr
   split at hr
   ·rename_i cs h2
    simp only [h2] at hc
    cases ag<;>simp at hr hc<;>exact hr.1.mp hc
   ·cases hr
  ·rename_i t sz' i g e h1
   rw [h1] at hc
   cases ag<;>simp at hr hc<;>exact hr.1.mp hc
  ·rename_i cs g h1
   rw [h1] at hc
   cases ag<;>simp at hr hc<;>exact hr.1.mp hc
  ·cases hr
 | idxAr sz len x i=>
  simp only [rop] at hr
  simp only [cck] at hc
  split at hr
  ·rename_i h1 h2
   rw [h2] at hc
   split at hr
   ·cases hr
   simp at hr hc;exact hr.1.mp hc
  ·rename_i h1 h2
   rw [h2] at hc
   simp at hr hc;exact hr.1.mp hc
  ·rename_i h1 h2
   rw [h2] at hc
   simp at hr hc;exact hr.1.mp hc
  ·cases hr
 | _=>simp [cck] at hc
def wck (op:AOp) (st:St):Bool:=
 match op with
 | .mark x=>match st.val x with
  | some (.sl _ _ _ (_::_))=>true
  | _=>false
 | .alloc _ _ _ | .box _ _ | .convB _ _ | .mkmap _ | .insrt _ _ _ _=>true
 | .bslice _ sz parts=>match (zA8 st.val parts).bind PV.toDL with
  | some es=>es.all fun e=>e.sz==sz
  | none=>false
 | .store sz a x=>match st.val a,st.val x with
  | some (.ptr k o),some p=>match st.box k with
   | some cs=>decide (o+sz≤cs.length)&&p.cells.length==sz
   | none=>false
  | _,_=>false
 | _=>false
theorem zV0 {site:Nat} {op:AOp} {st st':St} {c:Prop} {v:PV} (hr:wop site op st=some (c,v,st')) (hc:wck op st=true):c:=by
 cases op with
 | alloc e s z=>simp only [wop,Option.some.injEq,Prod.mk.injEq] at hr;obtain ⟨rfl,_⟩:=hr;trivial
 | mkmap b=>simp only [wop,Option.some.injEq,Prod.mk.injEq] at hr;obtain ⟨rfl,_⟩:=hr;trivial
 | insrt kk m k x=>simp only [wop] at hr;(repeat' split at hr)<;>first | (simp only [Option.some.injEq,Prod.mk.injEq] at hr;obtain ⟨rfl,_⟩:=hr;trivial) | cases hr
 | box e x=>
  simp only [wop] at hr
  split at hr
  ·split at hr
   ·simp only [Option.some.injEq,Prod.mk.injEq] at hr;obtain ⟨rfl,_⟩:=hr;trivial
   ·cases hr
  ·cases hr
 | mark x=>
  simp only [wop] at hr
  simp only [wck] at hc
  split at hr
  ·rename_i t sz off es h1
   rw [h1] at hc
   simp only [Option.some.injEq,Prod.mk.injEq] at hr;obtain ⟨rfl,_⟩:=hr
   cases es with
   | nil=>simp at hc
   | cons=>simp
  ·cases hr
 | convB e x=>
  simp only [wop] at hr
  split at hr
  ·simp only [Option.some.injEq,Prod.mk.injEq] at hr;obtain ⟨rfl,_⟩:=hr;trivial
  ·cases hr
 | bslice e sz parts=>
  simp only [wop] at hr
  simp only [wck] at hc
  split at hr
  ·rename_i ps h1
   split at hr
   ·rename_i es h2
    simp only [Option.some.injEq,Prod.mk.injEq] at hr;obtain ⟨rfl,_⟩:=hr
    simp only [h1,Option.bind_some,h2,List.all_eq_true,beq_iff_eq] at hc
    exact hc
   ·cases hr
  ·cases hr
 | store sz a x=>
  simp only [wop] at hr
  simp only [wck] at hc
  split at hr
  ·rename_i k o p h1 h2
   rw [h1,h2] at hc
   split at hr
   ·cases hr
   split at hr
   ·rename_i cs h3
    split at hr
    ·simp only [Option.some.injEq,Prod.mk.injEq] at hr;obtain ⟨rfl,_⟩:=hr
     simp only [h3,Bool.and_eq_true,decide_eq_true_eq,beq_iff_eq] at hc
     exact hc
    ·cases hr
   ·cases hr
  ·rename_i t s i f e p h1 h2
   rw [h1,h2] at hc;cases hc
  ·cases hr
 | _=>simp [wck] at hc
def qop (n:Nat) (op:AOp) (st:St):Option (PV×St):=
 match rop op st.val st.box with
 | some (c,v)=>bif cck op st.val st.box then some (v,st) else none
 | none=>match wop (16*n+15) op st with
  | some (c,v,st')=>bif wck op st then some (v,st') else none
  | none=>none
theorem zKF {P:Program} {n:Nat} {op:AOp} {st st':St} {v:PV} (h:qop n op st=some (v,st')) {K:PV→St→Prop} (hK:K v st'):zAY P n op st K:=by
 unfold qop at h
 unfold zAY
 cases h1:rop op st.val st.box with
 | some cv=>
  obtain ⟨c,u⟩:=cv
  rw [h1] at h
  simp only at h⊢
  cases h2:cck op st.val st.box with
  | true=>rw [h2] at h;simp at h;obtain ⟨rfl,rfl⟩:=h;exact ⟨zMW h1 h2,hK⟩
  | false=>rw [h2] at h;simp at h
 | none=>
  rw [h1] at h
  simp only at h⊢
  cases h3:wop (16*n+15) op st with
  | some cv=>
   obtain ⟨c,u,s⟩:=cv
   rw [h3] at h
   simp only at h⊢
   cases h2:wck op st with
   | true=>rw [h2] at h;simp at h;obtain ⟨rfl,rfl⟩:=h;exact ⟨zV0 h3 h2,hK⟩
   | false=>rw [h2] at h;simp at h
  | none=>rw [h3] at h;simp at h
theorem zG9 {P:Program} {n f:Nat} {ps:List PV} {st:St} {K K':PV→St→Prop} (h:zFt P n f ps st K) (hk:∀v s,K v s→K' v s):zFt P n f ps st K':=by
 obtain ⟨ds,r,h1,h2,h3⟩:=h
 refine ⟨ds,r,h1,h2, ?_⟩
 rcases h3 with ⟨g1,g2,g3⟩ | ⟨g1,g2⟩
 ·exact .inl ⟨g1,g2,hk _ _ g3⟩
 ·exact .inr ⟨g1,hk _ _ g2⟩
theorem zNN {P:Program} {f:Nat} {ps:List PV} {st:St} {K K':PV→St→Prop} (h:zLt P f ps st K) (hk:∀v s,K v s→K' v s):zLt P f ps st K':=by
 obtain ⟨t,sz,off,es,as,xs,es',k,g1,g2,g3,g4,g5⟩:=h
 exact ⟨t,sz,off,es,as,xs,es',k,g1,g2,g3,g4,hk _ _ g5⟩
theorem zIT {P:Program} {n f:Nat} {A:St→Option (List PV)} {st:St} {K K':PV→St→Prop} (h:zHt P n f A st K) (hk:∀v s,K v s→K' v s):zHt P n f A st K':=by
 obtain ⟨ps,bx,r,bx',ρ,F,as,g1,g2,g3,g4,g5,g6,g7,g8,g9⟩:=h
 exact ⟨ps,bx,r,bx',ρ,F,as,g1,g2,g3,g4,g5,g6,g7,g8,hk _ _ g9⟩
theorem zPO {kk:IntKind} {n:Int} {z:PV} {K K':PV→Bool→Prop} (hk:∀p b,K p b→K' p b):∀{cs:List PV},zFY kk n z K cs→zFY kk n z K' cs
 | [],h=>hk _ _ h
 | p::cs,h=>by
  unfold zFY at h⊢
  split at h
  ·rename_i e;cases e
  ·rename_i k' c q r e
   cases e
   exact ⟨h.1,fun e=>hk _ _ (h.2.1 e),fun e=>zPO hk (h.2.2 e)⟩
  ·exact h.elim
theorem zFy {P:Program} {n:Nat} {op:AOp} {st:St} {K K':PV→St→Prop} (h:zAY P n op st K) (hk:∀v s,K v s→K' v s):zAY P n op st K':=by
 unfold zAY at h⊢
 split at h
 ·exact ⟨h.1,hk _ _ h.2⟩
 ·split at h
  ·exact ⟨h.1,hk _ _ h.2⟩
  ·unfold zCS at h⊢
   split at h
   ·rcases h with h | h
    ·left
     split at h
     ·exact h.imp (fun h=>zG9 h hk) (fun h=>zNN h hk)
     ·exact h.elim
    ·right
     exact zIT h hk
   ·split at h
    ·split at h
     ·exact h.imp (fun h=>zG9 h hk) (fun h=>h.imp (fun h=>zNN h hk) (fun h=>zIT h hk))
     ·exact h.elim
    ·exact h.elim
   ·rcases h with h | h
    ·left
     split at h
     ·exact zG9 h hk
     ·exact zG9 h hk
     ·exact h.elim
    ·right
     split at h
     ·exact zIT h hk
     ·exact h.elim
   ·split at h
    ·refine ⟨h.1,h.2.1, ?_⟩
     have h':=h.2.2
     split at h'
     ·exact zPO (fun p b=>hk _ _) h'
     ·exact h'.elim
    ·exact h.elim
   ·split at h
    ·exact ⟨fun e=>hk _ _ (h.1 e),fun e b=>hk _ _ (h.2 e b)⟩
    ·exact h.elim
   ·exact h.elim
theorem zLR {P:Program} {it:DIt} {st:St} {K K':St→Prop} (h:itK P it st K) (hk:∀s,K s→K' s):itK P it st K':=by
 unfold itK at h⊢
 split at h
 ·exact zFy h fun v s hv=>hk _ hv
 ·unfold zIo at h⊢
  split at h
  ·exact ⟨h.1,hk _ h.2⟩
  ·exact h.elim
theorem zFo {P:Program}:∀{os:List zAo} {st:St} {K K':St→Prop},zBC P os st K→(∀s,K s→K' s)→zBC P os st K'
 | [],st,K,K',h,hk=>hk _ h
 | o::r,st,K,K',h,hk=>by
  simp only [zBC] at h⊢
  split
  ·rename_i hg
   rw [hg] at h
   exact zFy h fun v s hv=>zFo hv hk
  ·rename_i t b hg
   rw [hg] at h
   simp only at h
   split
   ·rename_i g hget
    rw [hget] at h
    exact ⟨fun e=>zFy (h.1 e) fun v s hv=>zFo hv hk,fun e=>zFo (h.2 e) hk⟩
   ·rename_i hget
    rw [hget] at h
    exact zFo h hk
   ·rename_i h1 h2
    split at h
    ·rename_i g hget;exact absurd hget (h1 g)
    ·rename_i hget;exact absurd hget h2
    ·exact h
def zIR:List DIt→Option (List zAo)
 | []=>some []
 | it::r=>match it.stay,zIR r with
  | [],some os=>match it.sync,it.o.op with
   | true,_=>some (it.o::os)
   | false, .bin _ .slice _ _=>none
   | false,_=>if it.o.op.isR then some (it.o::os) else none
  | _,_=>none
theorem zSq {P:Program} {o:zAo} {st:St} {K:PV→St→Prop} (hR:o.op.isR=true) (hb:∀op x y,o.op≠ .bin op .slice x y) (h:zAY P o.n o.op st K):zIo o st fun v=>K v st:=by
 unfold zAY at h
 unfold zIo
 cases h1:rop o.op st.val st.box with
 | some cv=>rw [h1] at h;exact h
 | none=>
  rw [h1] at h
  simp only at h⊢
  obtain ⟨dst,g,n,op⟩:=o
  simp only at*
  cases op<;>first | (simp [AOp.isR] at hR;done) | skip
  all_goals first
   | (simp only [wop,zCS] at h;done)
   | skip
  all_goals simp only [wop,zCS] at h
  all_goals first
   | exact h.elim
   | skip
  rename_i op bt x y
  cases bt<;>simp [zJ5] at h
  exact absurd rfl (hb op x y)
theorem zFN {P:Program}:∀{its:List DIt} {os:List zAo} {st:St} {K:St→Prop},zIR its=some os→zBC P os st K→zAV P its st K
 | [],os,st,K,h,hk=>by simp only [zIR,Option.some.injEq] at h;subst h;exact hk
 | it::r,os,st,K,h,hk=>by
  simp only [zIR] at h
  cases hs:it.stay with
  | cons a b=>rw [hs] at h;cases h
  | nil=>
   cases hp:zIR r with
   | none=>rw [hs,hp] at h;cases h
   | some os'=>
    rw [hs,hp] at h
    simp only at h
    have step:os=it.o::os'∧∀(st:St) (K:PV→St→Prop),zAY P it.o.n it.o.op st K→itK P it st (fun s=>True∧∃v st',s=st'.putO it.o.dst v∧K v st'):=by
     cases hsy:it.sync with
     | true=>
      rw [hsy] at h
      simp only [Option.some.injEq] at h
      refine ⟨h.symm,fun st K hK=> ?_⟩
      unfold itK;rw [hsy]
      exact zFy hK fun v st' hv=>⟨trivial,v,st',rfl,hv⟩
     | false=>
      rw [hsy] at h
      have hb:(∀op x y,it.o.op≠ .bin op .slice x y)∧it.o.op.isR=true∧os=it.o::os':=by
       split at h
       ·rename_i h1;cases h1
       ·cases h
       ·rename_i h1 h1'
        split at h
        ·rename_i h2
         simp only [Option.some.injEq] at h
         exact ⟨fun op x y e=>h1' op x y e,h2,h.symm⟩
        ·cases h
      refine ⟨hb.2.2,fun st K hK=> ?_⟩
      unfold itK;rw [hsy]
      have:=zSq hb.2.1 hb.1 hK
      unfold zIo at this⊢
      split at this
      ·exact ⟨this.1,trivial,_,_,rfl,this.2⟩
      ·exact this.elim
    obtain ⟨rfl,step⟩:=step
    simp only [zAV]
    simp only [zBC] at hk
    split
    ·rename_i hg
     rw [hg] at hk
     simp only at hk
     refine zLR (step st _ hk) ?_
     rintro s ⟨_,v,st',rfl,hv⟩
     rw [hs]
     exact ⟨trivial,zFN hp hv⟩
    ·rename_i t b hg
     rw [hg] at hk
     simp only at hk
     split
     ·rename_i g hget
      rw [hget] at hk
      refine ⟨fun e=>zLR (step _ _ (hk.1 e)) ?_,fun e=> ?_⟩
      ·rintro s ⟨_,v,st',rfl,hv⟩
       rw [hs]
       exact ⟨trivial,zFN hp hv⟩
      ·rw [hs]
       exact ⟨trivial,zFN hp (hk.2 e)⟩
     ·rename_i hget
      rw [hget] at hk
      rw [hs]
      exact ⟨trivial,zFN hp hk⟩
     ·rename_i h1 h2
      split at hk
      ·rename_i g hget;exact absurd hget (h1 g)
      ·rename_i hget;exact absurd hget h2
      ·exact hk
def itOk (it:DIt):Bool:=match it.sync,it.o.op with
 | true,_=>true
 | false, .bin _ .slice _ _=>false
 | false,op=>op.isR
def grpD:List DIt→Option (List (List zAo×List zAo))
 | []=>some []
 | it::r=>match grpD r with
  | none=>none
  | some gs=>bif itOk it then (match it.stay with
   | []=>match gs with
    | (os,S)::gs'=>some ((it.o::os,S)::gs')
    | []=>some [([it.o],[])]
   | x::xs=>some (([it.o],x::xs)::gs)) else none
def vcG (P:Program):List (List zAo×List zAo)→St→(St→Prop)→Prop
 | [],st,K=>K st
 | (os,S)::gs,st,K=>zBC P os st fun s=>zBT S s∧vcG P gs s K
def grpF:List (List zAo×List zAo)→List Fr→List Fr
 | [],ks=>ks
 | (os,S)::gs,ks=> .o true os:: .h S::grpF gs ks
theorem go_grpF {P:Program} {N:Nat} {Q:Kd→St→Prop} {ks:List Fr}:∀{gs:List (List zAo×List zAo)} {st:St},go P N Q (grpF gs ks) .norm st→vcG P gs st (go P N Q ks .norm)
 | [],st,h=>h
 | (os,S)::gs,st,h=>by
  simp only [grpF,go,cond_true] at h
  simp only [vcG]
  exact zFo h fun s hs=>⟨hs.1,go_grpF hs.2⟩
theorem zQ8 {P:Program} {it:DIt} (h:itOk it=true) (st:St) (K:PV→St→Prop) (hk:zAY P it.o.n it.o.op st K):itK P it st (fun s=>True∧∃v st',s=st'.putO it.o.dst v∧K v st'):=by
 unfold itOk at h
 unfold itK
 cases hsy:it.sync with
 | true=>exact zFy hk fun v st' hv=>⟨trivial,v,st',rfl,hv⟩
 | false=>
  rw [hsy] at h
  have hb:(∀op x y,it.o.op≠ .bin op .slice x y)∧it.o.op.isR=true:=by
   split at h
   ·rename_i h1;cases h1
   ·cases h
   ·rename_i h1 h1'
    exact ⟨fun op x y e=>h1' op x y e,h⟩
  have:=zSq hb.2 hb.1 hk
  unfold zIo at this⊢
  split at this
  ·exact ⟨this.1,trivial,_,_,rfl,this.2⟩
  ·exact this.elim
theorem zOq {P:Program} {it:DIt} {rest:List DIt} {st:St} {K:St→Prop} {G:St→Prop} (hok:itOk it=true) (hG:∀s,G s→zBT it.stay s∧zAV P rest s K) (h:zBC P [it.o] st G):zAV P (it::rest) st K:=by
 simp only [zAV]
 simp only [zBC] at h
 split
 ·rename_i hg
  rw [hg] at h
  refine zLR (zQ8 hok st _ h) ?_
  rintro s ⟨_,v,st',rfl,hv⟩
  exact hG _ hv
 ·rename_i t b hg
  rw [hg] at h
  simp only at h
  split
  ·rename_i g hget
   rw [hget] at h
   refine ⟨fun e=>zLR (zQ8 hok _ _ (h.1 e)) ?_,fun e=>hG _ (h.2 e)⟩
   rintro s ⟨_,v,st',rfl,hv⟩
   exact hG _ hv
  ·rename_i hget
   rw [hget] at h
   exact hG _ h
  ·rename_i h1 h2
   split at h
   ·rename_i g hget;exact absurd hget (h1 g)
   ·rename_i hget;exact absurd hget h2
   ·exact h
theorem zVI {P:Program} {o:zAo} {os:List zAo} {st:St} {K:St→Prop} (h:zBC P (o::os) st K):zBC P [o] st fun s=>zBC P os s K:=by
 simp only [zBC] at h⊢
 exact h
theorem zHp {P:Program}:∀{its:List DIt} {gs:List (List zAo×List zAo)} {st:St} {K:St→Prop},grpD its=some gs→vcG P gs st K→zAV P its st K
 | [],gs,st,K,h,hk=>by simp only [grpD,Option.some.injEq] at h;subst h;exact hk
 | it::r,gs,st,K,h,hk=>by
  simp only [grpD] at h
  split at h
  ·cases h
  ·rename_i gs0 h0
   cases hok:itOk it with
   | false=>rw [hok] at h;cases h
   | true=>
    rw [hok] at h
    simp only [cond_true] at h
    split at h
    ·rename_i hst
     split at h
     ·rename_i os S gs'
      simp only [Option.some.injEq] at h;subst h
      simp only [vcG] at hk
      refine zOq hok (fun s hs=>⟨by rw [hst];trivial,zHp h0 ?_⟩) (zVI hk)
      simp only [vcG];exact hs
     ·simp only [Option.some.injEq] at h;subst h
      simp only [vcG] at hk
      refine zOq hok (fun s hs=>⟨by rw [hst];trivial,zHp h0 ?_⟩) hk
      simp only [vcG];exact hs.2
    ·rename_i x xs hst
     simp only [Option.some.injEq] at h;subst h
     simp only [vcG] at hk
     exact zOq hok (fun s hs=>⟨by rw [hst];exact hs.1,zHp h0 hs.2⟩) hk
theorem zSs {P:Program} {N:Nat} {its:List DIt} {gs:List (List zAo×List zAo)} {st:St} {Q:Kd→St→Prop} {ks:List Fr} (h:grpD its=some gs) (hk:go P N Q (grpF gs ks) .norm st):EvC P N (.draw its) st (go P N Q ks):=
 zTv (zHp h (go_grpF hk))
theorem zQO {P:Program} {N:Nat} {its:List DIt} {os:List zAo} {st:St} {R:Kd→St→Prop} (h:zIR its=some os) (hk:zBC P os st (R .norm)):EvC P N (.draw its) st R:=
 zTv (zFN h hk)
end Go.Proofs.YtnmlihfpenjeiaaGreat.Abs
namespace Go.Proofs.YtnmlihfpenjeiaaGreat.Abs
open Go Go.RowKit
set_option linter.unusedVariables false
set_option linter.unusedSimpArgs false
def mst:List Fr→Kd→St→Option (List Fr×Kd×St)
 | [],_,_=>none
 | f::ks,k,st=>match k with
  | .norm=>match f with
   | .c a=>match a with
    | .skip=>some (ks, .norm,st)
    | .seq x y=>some (.c x:: .c y::ks, .norm,st)
    | .block i x=>some (.c x:: .b i::ks, .norm,st)
    | .exit i=>some (ks, .exit i,st)
    | .ret=>some (ks, .ret,st)
    | .reg ops=>some (.o false ops::ks, .norm,st)
    | .draw its=>match zIR its with
     | some os=>some (.o true os::ks, .norm,st)
     | none=>(grpD its).map fun gs=>(grpF gs ks, .norm,st)
    | .cond o x y=>match st.val o with
     | some (.d (.bool t))=>some (.c (bif t then x else y)::ks, .norm,st.litO o t)
     | _=>none
    | .loop x=>some (.l x::ks, .norm,st)
    | .rng _ _ _ _=>none
    | .draws _=>none
   | .l a=>some (.c a:: .l a::ks, .norm,st)
   | .o q ops=>match ops with
    | []=>some (ks, .norm,st)
    | o::r=>match o.guard with
     | none=>(qop o.n o.op st).map fun vs=>(.o q r::ks, .norm,vs.2.putO o.dst vs.1)
     | some (t,b)=>match st.get t with
      | some (.d (.bool g))=>bif g==b then (qop o.n o.op (st.lit t b)).map fun vs=>(.o q r::ks, .norm,vs.2.putO o.dst vs.1)
       else some (.o q r::ks, .norm,(st.lit t (!b)).putO o.dst (.tup []))
      | some (.tup [])=>some (.o q r::ks, .norm,st.putO o.dst (.tup []))
      | _=>none
   | .b _=>some (ks, .norm,st)
   | .h S=>match S with
    | []=>some (ks, .norm,st)
    | _=>none
  | .exit i=>match f with
   | .b j=>some (ks,bif i==j then .norm else .exit i,st)
   | _=>some (ks, .exit i,st)
  | .ret=>some (ks, .ret,st)
def frD (its:List DIt) (ks:List Fr):Option (List Fr):=match zIR its with
 | some os=>some (.o true os::ks)
 | none=>(grpD its).map fun gs=>grpF gs ks
theorem zW7 {P:Program} {N:Nat} {Q:Kd→St→Prop} {its:List DIt} {ks ks':List Fr} {st:St} (h:frD its ks=some ks') (hk:go P N Q ks' .norm st):zAV P its st (go P N Q ks .norm):=by
 unfold frD at h
 split at h
 ·rename_i os h1
  cases h
  simp only [go,cond_true] at hk
  exact zFN h1 hk
 ·simp only [Option.map_eq_some_iff] at h
  obtain ⟨gs,h1,rfl⟩:=h
  exact zHp h1 (go_grpF hk)
def frDs (l:List (List DIt)) (ks:List Fr):Option (List (List Fr)):=match l with
 | []=>some []
 | i::r=>match frD i ks,frDs r ks with
  | some a,some b=>some (a::b)
  | _,_=>none
theorem zSi {ks:List Fr}:∀{l:List (List DIt)} {fs:List (List Fr)},frDs l ks=some fs→∀i∈l,∃f∈fs,frD i ks=some f
 | [],fs,h,i,hi=>by simp at hi
 | x::r,fs,h,i,hi=>by
  simp only [frDs] at h
  split at h
  ·rename_i a b h1 h2
   cases h
   rcases List.mem_cons.1 hi with rfl | hi
   ·exact ⟨a,by simp,h1⟩
   ·obtain ⟨f,g1,g2⟩:=zSi h2 i hi
    exact ⟨f,by simp [g1],g2⟩
  ·cases h
theorem zKJ {P:Program} {N:Nat} {Q:Kd→St→Prop} {l:List (List DIt)} {ks:List Fr} {fs:List (List Fr)} {st:St} (h:frDs l ks=some fs) (hk:∀f∈fs,go P N Q f .norm st):go P N Q (.c (.draws l)::ks) .norm st:=by
 simp only [go]
 refine zVZ fun its hi=> ?_
 obtain ⟨f,h1,h2⟩:=zSi h its hi
 exact zW7 h2 (hk f h1)
def adv:Nat→List Fr→Kd→St→Option (List Fr×Kd×St)
 | 0,ks,k,st=>some (ks,k,st)
 | n+1,ks,k,st=>match mst ks k st with
  | some x=>adv n x.1 x.2.1 x.2.2
  | none=>none
section
variable {P:Program} {N:Nat} {Q:Kd→St→Prop}
theorem zXf {ks ks':List Fr} {k k':Kd} {st st':St} (h:mst ks k st=some (ks',k',st')) (hg:go P N Q ks' k' st'):go P N Q ks k st:=by
 cases ks with
 | nil=>simp [mst] at h
 | cons f ks=>
  cases k with
  | ret=>
   simp only [mst,Option.some.injEq,Prod.mk.injEq] at h
   obtain ⟨rfl,rfl,rfl⟩:=h
   cases f<;>exact hg
  | exit i=>
   cases f with
   | b j=>
    simp only [mst,Option.some.injEq,Prod.mk.injEq] at h
    obtain ⟨rfl,rfl,rfl⟩:=h
    simp only [go]
    by_cases hij:i=j
    ·subst hij;simpa using hg
    ·rw [if_neg hij]
     have:(i==j)=false:=by simpa using hij
     rw [this] at hg;exact hg
   | c a=>simp only [mst,Option.some.injEq,Prod.mk.injEq] at h;obtain ⟨rfl,rfl,rfl⟩:=h;exact hg
   | o q a=>simp only [mst,Option.some.injEq,Prod.mk.injEq] at h;obtain ⟨rfl,rfl,rfl⟩:=h;exact hg
   | l a=>simp only [mst,Option.some.injEq,Prod.mk.injEq] at h;obtain ⟨rfl,rfl,rfl⟩:=h;exact hg
   | h a=>simp only [mst,Option.some.injEq,Prod.mk.injEq] at h;obtain ⟨rfl,rfl,rfl⟩:=h;exact hg
  | norm=>
   cases f with
   | h S=>
    cases S with
    | nil=>simp only [mst,Option.some.injEq,Prod.mk.injEq] at h;obtain ⟨rfl,rfl,rfl⟩:=h;exact ⟨trivial,hg⟩
    | cons=>simp [mst] at h
   | b j=>simp only [mst,Option.some.injEq,Prod.mk.injEq] at h;obtain ⟨rfl,rfl,rfl⟩:=h;exact hg
   | l a=>
    simp only [mst,Option.some.injEq,Prod.mk.injEq] at h;obtain ⟨rfl,rfl,rfl⟩:=h
    refine zVh ((show EvC P N a st (go P N Q (.l a::ks)) from hg).mono fun k s hk=> ?_)
    cases k<;>exact hk
   | c a=>
    simp only [go]
    cases a with
    | skip=>simp only [mst,Option.some.injEq,Prod.mk.injEq] at h;obtain ⟨rfl,rfl,rfl⟩:=h;exact zX4 hg
    | seq x y=>
     simp only [mst,Option.some.injEq,Prod.mk.injEq] at h;obtain ⟨rfl,rfl,rfl⟩:=h
     refine zYv ((show EvC P N x st (go P N Q (.c y::ks)) from hg).mono fun k s hk=> ?_)
     cases k<;>exact hk
    | block i x=>
     simp only [mst,Option.some.injEq,Prod.mk.injEq] at h;obtain ⟨rfl,rfl,rfl⟩:=h
     refine zWy ((show EvC P N x st (go P N Q (.b i::ks)) from hg).mono fun k s hk=> ?_)
     cases k with
     | exit j=>simpa only [go] using hk
     | norm=>exact hk
     | ret=>exact hk
    | exit i=>simp only [mst,Option.some.injEq,Prod.mk.injEq] at h;obtain ⟨rfl,rfl,rfl⟩:=h;exact zXG hg
    | ret=>simp only [mst,Option.some.injEq,Prod.mk.injEq] at h;obtain ⟨rfl,rfl,rfl⟩:=h;exact zY6 hg
    | reg ops=>simp only [mst,Option.some.injEq,Prod.mk.injEq] at h;obtain ⟨rfl,rfl,rfl⟩:=h;exact zYQ hg
    | loop x=>simp only [mst,Option.some.injEq,Prod.mk.injEq] at h;obtain ⟨rfl,rfl,rfl⟩:=h;exact zXA hg
    | rng g p d its=>simp [mst] at h
    | draws l=>simp [mst] at h
    | draw its=>
     simp only [mst] at h
     split at h
     ·rename_i os h1
      simp only [Option.some.injEq,Prod.mk.injEq] at h;obtain ⟨rfl,rfl,rfl⟩:=h
      exact zQO h1 hg
     ·simp only [Option.map_eq_some_iff,Prod.mk.injEq] at h
      obtain ⟨gs,h1,rfl,rfl,rfl⟩:=h
      exact zSs h1 hg
    | cond o x y=>
     simp only [mst] at h
     split at h
     ·rename_i t ht
      simp only [Option.some.injEq,Prod.mk.injEq] at h;obtain ⟨rfl,rfl,rfl⟩:=h
      cases t with
      | true=>exact zTl ht (fun _=>hg) (fun e=>by cases e)
      | false=>exact zTl ht (fun e=>by cases e) (fun _=>hg)
     ·cases h
   | o q ops=>
    cases ops with
    | nil=>
     simp only [mst,Option.some.injEq,Prod.mk.injEq] at h;obtain ⟨rfl,rfl,rfl⟩:=h
     cases q
     ·exact zYW hg
     ·exact hg
    | cons o r=>
     simp only [mst] at h
     split at h
     ·rename_i ho
      simp only [Option.map_eq_some_iff,Prod.mk.injEq] at h
      obtain ⟨⟨v,s⟩,h1,rfl,rfl,rfl⟩:=h
      cases q
      ·exact zSV ho (zKF h1 hg)
      ·simp only [go,cond_true,zBC,ho]
       exact zKF h1 hg
     ·rename_i t b ho
      split at h
      ·rename_i g hget
       cases hgb:g==b with
       | true=>
        rw [hgb] at h
        simp only [cond_true,Option.map_eq_some_iff,Prod.mk.injEq] at h
        obtain ⟨⟨v,s⟩,h1,rfl,rfl,rfl⟩:=h
        have hne:g= !b→False:=fun e=>by rw [e] at hgb;cases b<;>simp at hgb
        cases q
        ·exact zMq ho hget (fun e=>zKF h1 hg) (fun e=>(hne e).elim)
        ·simp only [go,cond_true,zBC,ho,hget]
         exact ⟨fun e=>zKF h1 hg,fun e=>(hne e).elim⟩
       | false=>
        rw [hgb] at h
        simp only [cond_false,Option.some.injEq,Prod.mk.injEq] at h
        obtain ⟨rfl,rfl,rfl⟩:=h
        have hne:g=b→False:=fun e=>by rw [e] at hgb;simp at hgb
        cases q
        ·exact zMq ho hget (fun e=>(hne e).elim) (fun e=>hg)
        ·simp only [go,cond_true,zBC,ho,hget]
         exact ⟨fun e=>(hne e).elim,fun e=>hg⟩
      ·rename_i hget
       simp only [Option.some.injEq,Prod.mk.injEq] at h;obtain ⟨rfl,rfl,rfl⟩:=h
       cases q
       ·exact zWB ho hget hg
       ·simp only [go,cond_true,zBC,ho,hget]
        exact hg
      ·cases h
theorem zQV:∀{n:Nat} {ks ks':List Fr} {k k':Kd} {st st':St},adv n ks k st=some (ks',k',st')→go P N Q ks' k' st'→go P N Q ks k st
 | 0,ks,ks',k,k',st,st',h,hg=>by simp only [adv,Option.some.injEq,Prod.mk.injEq] at h;obtain ⟨rfl,rfl,rfl⟩:=h;exact hg
 | n+1,ks,ks',k,k',st,st',h,hg=>by
  simp only [adv] at h
  split at h
  ·rename_i x hx
   exact zXf hx (zQV h hg)
  ·cases h
end
def dd {α:Type} [DecidableEq α]:List α→List α
 | []=>[]
 | x::xs=>if x∈xs then dd xs else x::dd xs
theorem zWP {α:Type} [DecidableEq α] {y:α}:∀{l:List α},y∈dd l↔y∈l
 | []=>by simp [dd]
 | x::xs=>by
  simp only [dd]
  split
  ·rename_i h
   rw [zWP]
   constructor
   ·intro h';exact List.mem_cons_of_mem _ h'
   ·intro h';rcases List.mem_cons.1 h' with rfl | h'
    ·exact h
    ·exact h'
  ·simp only [List.mem_cons,zWP]
mutual
def nmP:PV→PV→List (Tg×Tg)
 | p, .sl t' _ _ _=>match p with
  | .sl t _ _ _=>[(t',t)]
  | _=>[]
 | p, .ptr t' _=>match p with
  | .ptr t _=>[(t',t)]
  | _=>[]
 | p, .ep t' _ _ _ _=>match p with
  | .ep t _ _ _ _=>[(t',t)]
  | _=>[]
 | p, .agg cs'=>match p with
  | .agg cs=>nmL cs cs'
  | _=>[]
 | p, .clo _ a' b'=>match p with
  | .clo _ a b=>nmL a a'++nmL b b'
  | _=>[]
 | p, .ifc _ x'=>match p with
  | .ifc _ x=>nmP x x'
  | _=>[]
 | p, .tup xs'=>match p with
  | .tup xs=>nmL xs xs'
  | _=>[]
 | _,_=>[]
def nmL:List PV→List PV→List (Tg×Tg)
 | ps,[]=>[]
 | ps,y::ys=>match ps with
  | p::ps=>nmP p y++nmL ps ys
  | []=>[]
end
mutual
def fzP:PV→PV→List Tg
 | p, .d _=>p.tags
 | p, .agg cs'=>match p with
  | .agg cs=>fzL cs cs'
  | _=>[]
 | p, .clo _ a' b'=>match p with
  | .clo _ a b=>fzL a a'++fzL b b'
  | _=>[]
 | p, .ifc _ x'=>match p with
  | .ifc _ x=>fzP x x'
  | _=>[]
 | p, .tup xs'=>match p with
  | .tup xs=>fzL xs xs'
  | _=>[]
 | _,_=>[]
def fzL:List PV→List PV→List Tg
 | ps,[]=>[]
 | ps,y::ys=>match ps with
  | p::ps=>fzP p y++fzL ps ys
  | []=>[]
end
mutual
def cvP (ρ β:Nm):PV→PV→Option PV
 | p, .unk=>some .unk
 | p, .d _=>match p.tags with
  | []=>p.toD.map .d
  | _=>none
 | p, .nils=>match p with
  | .nils=>some .nils
  | _=>none
 | p, .sl t' sz' off' es'=>match p with
  | .nils=>some (.sl t' sz' off' [])
  | .sl t sz off es=>if ρ t'=some t then some (.sl t' sz off es) else none
  | _=>none
 | p, .ptr k' o'=>match p with
  | .ptr k o=>if β k'=some k∧k.isM=k'.isM then some (.ptr k' o) else none
  | _=>none
 | p, .ep t' sz' i' f' e'=>match p with
  | .ep t sz i f e=>if ρ t'=some t then some (.ep t' sz i f e) else none
  | _=>none
 | p, .agg cs'=>match p with
  | .agg cs=>(cvL ρ β cs cs').map .agg
  | _=>none
 | p, .clo fn' a' b'=>match p with
  | .clo fn a b=>match cvL ρ β a a',cvL ρ β b b' with
   | some x,some y=>some (.clo fn x y)
   | _,_=>none
  | _=>none
 | p, .ifc t' x'=>match p with
  | .ifc t x=>(cvP ρ β x x').map (.ifc t)
  | _=>none
 | p, .tup xs'=>match p with
  | .tup xs=>(cvL ρ β xs xs').map .tup
  | _=>none
def cvL (ρ β:Nm):List PV→List PV→Option (List PV)
 | ps,[]=>match ps with
  | []=>some []
  | _=>none
 | ps,y::ys=>match ps with
  | p::ps=>match cvP ρ β p y,cvL ρ β ps ys with
   | some a,some b=>some (a::b)
   | _,_=>none
  | []=>none
end
mutual
theorem zPi {ρ β:Nm}:∀(q p:PV),cvP ρ β p q=some q→PV.le ρ β p q
 | .unk,p,h=>by simp [PV.le]
 | .d y,p,h=>by
  unfold cvP at h
  split at h
  ·rename_i ht
   simp only [Option.map_eq_some_iff] at h
   obtain ⟨x,h1,h2⟩:=h
   cases h2
   simp only [PV.le];exact ⟨ht,h1⟩
  ·cases h
 | .nils,p,h=>by
  unfold cvP at h
  split at h
  ·simp [PV.le]
  ·cases h
 | .sl t' sz' off' es',p,h=>by
  unfold cvP at h
  split at h
  ·simp only [Option.some.injEq,PV.sl.injEq] at h
   simp only [PV.le];exact h.2.2.2.symm
  ·split at h
   ·rename_i hr
    simp only [Option.some.injEq,PV.sl.injEq] at h
    simp only [PV.le];exact ⟨⟨hr,h.2.1,h.2.2.1⟩,h.2.2.2⟩
   ·cases h
  ·cases h
 | .ptr k' o',p,h=>by
  unfold cvP at h
  split at h
  ·split at h
   ·rename_i hr
    simp only [Option.some.injEq,PV.ptr.injEq] at h
    simp only [PV.le];exact ⟨hr,h.2⟩
   ·cases h
  ·cases h
 | .ep t' sz' i' f' e',p,h=>by
  unfold cvP at h
  split at h
  ·split at h
   ·rename_i hr
    simp only [Option.some.injEq,PV.ep.injEq] at h
    simp only [PV.le];exact ⟨hr,h.2⟩
   ·cases h
  ·cases h
 | .agg cs',p,h=>by
  unfold cvP at h
  split at h
  ·simp only [Option.map_eq_some_iff] at h
   obtain ⟨x,h1,h2⟩:=h
   cases h2
   simp only [PV.le];exact zHI _ _ h1
  ·cases h
 | .clo fn' a' b',p,h=>by
  unfold cvP at h
  split at h
  ·split at h
   ·rename_i h1 h2
    simp only [Option.some.injEq,PV.clo.injEq] at h
    obtain ⟨rfl,rfl,rfl⟩:=h
    simp only [PV.le];exact ⟨trivial,zHI _ _ h1,zHI _ _ h2⟩
   ·cases h
  ·cases h
 | .ifc t' x',p,h=>by
  unfold cvP at h
  split at h
  ·simp only [Option.map_eq_some_iff] at h
   obtain ⟨x,h1,h2⟩:=h
   cases h2
   simp only [PV.le];exact ⟨trivial,zPi _ _ h1⟩
  ·cases h
 | .tup xs',p,h=>by
  unfold cvP at h
  split at h
  ·simp only [Option.map_eq_some_iff] at h
   obtain ⟨x,h1,h2⟩:=h
   cases h2
   simp only [PV.le];exact zHI _ _ h1
  ·cases h
theorem zHI {ρ β:Nm}:∀(qs ps:List PV),cvL ρ β ps qs=some qs→PV.leL ρ β ps qs
 | [],ps,h=>by
  unfold cvL at h
  split at h
  ·simp [PV.leL]
  ·cases h
 | y::ys,ps,h=>by
  unfold cvL at h
  split at h
  ·split at h
   ·rename_i h1 h2
    simp only [Option.some.injEq,List.cons.injEq] at h
    obtain ⟨rfl,rfl⟩:=h
    simp only [PV.leL];exact ⟨zPi _ _ h1,zHI _ _ h2⟩
   ·cases h
  ·cases h
end
def nmTm (st:St):List (Nat×PV)→List (Tg×Tg)
 | []=>[]
 | (d,q)::r=>(match st.get d with
  | some p=>nmP p q
  | none=>[])++nmTm st r
def fzTm (st:St):List (Nat×PV)→List Tg
 | []=>[]
 | (d,q)::r=>(match st.get d with
  | some p=>fzP p q
  | none=>[])++fzTm st r
def nmBx (st:St) (ρ:List (Tg×Tg)):List (Tg×List PV)→List (Tg×Tg)
 | []=>[]
 | (k,qs)::r=>(match srcB ρ k with
  | some s=>match st.box s with
   | some ps=>nmL ps qs
   | none=>[]
  | none=>[])++nmBx st ρ r
def fzBx (st:St) (ρ:List (Tg×Tg)):List (Tg×List PV)→List Tg
 | []=>[]
 | (k,qs)::r=>(match srcB ρ k with
  | some s=>match st.box s with
   | some ps=>fzL ps qs
   | none=>[]
  | none=>[])++fzBx st ρ r
def cvTm (ρ β:Nm) (st:St):List (Nat×PV)→Option (List (Nat×PV))
 | []=>some []
 | (d,q)::r=>match st.get d with
  | some p=>match cvP ρ β p q,cvTm ρ β st r with
   | some a,some b=>some ((d,a)::b)
   | _,_=>none
  | none=>none
def cvBx (ρ β:Nm) (st:St):List (Tg×List PV)→Option (List (Tg×List PV))
 | []=>some []
 | (k,qs)::r=>match β k with
  | some s=>match st.box s with
   | some ps=>match cvL ρ β ps qs,cvBx ρ β st r with
    | some a,some b=>bif s.isM==k.isM then some ((k,a)::b) else none
    | _,_=>none
   | none=>none
  | none=>none
theorem zUA {ρ β:Nm} {st:St}:∀{l:List (Nat×PV)},cvTm ρ β st l=some l→leTm ρ β st l
 | [],h=>by simp [leTm]
 | (d,q)::r,h=>by
  simp only [cvTm] at h
  split at h
  ·rename_i p hp
   split at h
   ·rename_i a b h1 h2
    simp only [Option.some.injEq,List.cons.injEq,Prod.mk.injEq,true_and] at h
    obtain ⟨rfl,rfl⟩:=h
    simp only [leTm,hp]
    exact ⟨zPi _ _ h1,zUA h2⟩
   ·cases h
  ·cases h
theorem zHs {ρ β:Nm} {st:St}:∀{l:List (Tg×List PV)},cvBx ρ β st l=some l→leBx ρ β st l
 | [],h=>by simp [leBx]
 | (d,q)::r,h=>by
  simp only [cvBx] at h
  split at h
  ·rename_i s hs
   split at h
   ·rename_i p hp
    split at h
    ·rename_i a b h1 h2
     cases hm:s.isM==d.isM with
     | false=>rw [hm] at h;cases h
     | true=>
      rw [hm] at h
      simp only [cond_true,Option.some.injEq,List.cons.injEq,Prod.mk.injEq,true_and] at h
      obtain ⟨rfl,rfl⟩:=h
      simp only [leBx,hs,hp]
      exact ⟨⟨zHI _ _ h1,by simpa using hm⟩,zHs h2⟩
    ·cases h
   ·cases h
  ·cases h
def zEX:List Tg→Bool
 | []=>true
 | x::xs=> !(decide (x∈xs))&&zEX xs
theorem zDZ:∀{l:List Tg},zEX l=true→l.Nodup
 | [],_=>List.nodup_nil
 | x::xs,h=>by
  simp only [zEX,Bool.and_eq_true,Bool.not_eq_true',decide_eq_false_iff_not] at h
  exact List.nodup_cons.2 ⟨h.1,zDZ h.2⟩
def fit (st st':St):Option St:=
 let F:=dd (fzTm st st'.tm++fzBx st (nmTm st st'.tm) st'.bx)
 let s2:=st.frz F
 let ρ0:=nmTm s2 st'.tm
 let ρ:=dd (ρ0++nmBx s2 ρ0 st'.bx)
 bif zEX (ρ.map Prod.snd) then
  match cvTm (fun t=>zEv t ρ) (srcB ρ) s2 st'.tm,cvBx (fun t=>zEv t ρ) (srcB ρ) s2 st'.bx with
  | some a,some b=>some ⟨a,b⟩
  | _,_=>none
 else none
theorem zE7 {st st':St} (h:fit st st'=some st'):Sub st st':=by
 unfold fit at h
 simp only at h
 refine (Sub.frz st (dd (fzTm st st'.tm++fzBx st (nmTm st st'.tm) st'.bx))).trans ?_
 generalize st.frz (dd (fzTm st st'.tm++fzBx st (nmTm st st'.tm) st'.bx))=s2 at h⊢
 generalize dd (nmTm s2 st'.tm++nmBx s2 (nmTm s2 st'.tm) st'.bx)=ρ at h
 cases hn:zEX (ρ.map Prod.snd) with
 | false=>rw [hn] at h;cases h
 | true=>
  rw [hn] at h
  simp only [cond_true] at h
  split at h
  ·rename_i a b h1 h2
   cases st' with
   | mk tm bx=>
    simp only [Option.some.injEq,St.mk.injEq] at h
    obtain ⟨rfl,rfl⟩:=h
    exact Sub.le (ρ:=ρ) ⟨zDZ hn,zUA h1,zHs h2⟩
  ·cases h
end Go.Proofs.YtnmlihfpenjeiaaGreat.Abs
namespace Go.Proofs.YtnmlihfpenjeiaaGreat.Abs
open Go Go.RowKit
set_option linter.unusedVariables false
set_option linter.unusedSimpArgs false
def Ok {β:Type} (m:Option β) (Φ:β→Prop):Prop:=∀r,m=some r→Φ r
def exQ (Q:Exit→Act→World→Prop) (K:Act→World→Prop):Exit→Act→World→Prop
 | .normal=>K
 | e=>Q e
theorem zVm {Q:Exit→Act→World→Prop} {K:Act→World→Prop} (h:LetsOut (exQ Q K)):LetsOut Q:=h
theorem zZG {P:Program} {Q:Exit→Act→World→Prop} {K next:Act→World→Prop} {o:Oper} {a:Act} {w:World} (h:o.wp P a w next (exQ Q K)):o.wp P a w next Q:=h
theorem zI5 {P:Program} {ops:Array Oper} {Q:Exit→Act→World→Prop} {l2:List Oper}:∀{l1:List Oper} {a:Act} {w:World},wpList P ops (exQ Q (wpList P ops Q l2)) l1 a w→wpList P ops Q (l1++l2) a w
 | [],a,w,h=>h
 | o::l1,a,w,h=>by
  simp only [List.cons_append,wpList] at h⊢
  split
  ·rename_i hw
   rw [if_pos hw] at h
   rcases h with h | ⟨h1,h2⟩
   ·exact .inl (Oper.wp_mono (fun a w hk=>zI5 hk) (zZG h))
   ·exact .inr ⟨h1,zVm h2⟩
  ·rename_i hw
   rw [if_neg hw] at h
   exact zI5 h
theorem Ok.none {β:Type} {Φ:β→Prop}:Ok (none:Option β) Φ:=fun r h=>by cases h
theorem Ok.mono {β:Type} {m:Option β} {Φ Ψ:β→Prop} (h:Ok m Φ) (k:∀r,Φ r→Ψ r):Ok m Ψ:=fun r hr=>k r (h r hr)
def zLY (st:St):List RV→Option (List PV)
 | []=>some []
 | .t n::r=>match st.get n,zLY st r with
  | some p,some ps=>some (p::ps)
  | _,_=>none
 | .c n ag sz::r=>match st.get n with
  | some (.ptr _ _)=>match rop (.load ag sz (.t n)) st.val st.box,zLY st r with
   | some (_,p),some ps=>bif cck (.load ag sz (.t n)) st.val st.box then some (p::ps) else none
   | _,_=>none
  | _=>none
def resQ (res:List RV) (st:St):Option PV:=
 match zLY st res with
 | some [p]=>some p
 | some ps=>some (.tup ps)
 | none=>none
theorem zJu {st:St}:∀{res:List RV} {ps:List PV},zLY st res=some ps→∃c,resL st res=some (c,ps)∧c
 | [],ps,h=>by simp only [zLY,Option.some.injEq] at h;subst h;exact ⟨True,rfl,trivial⟩
 | .t n::r,ps,h=>by
  simp only [zLY] at h
  split at h
  ·rename_i p qs h1 h2
   simp only [Option.some.injEq] at h;subst h
   obtain ⟨c,h3,h4⟩:=zJu h2
   exact ⟨c,by simp only [resL,h1,h3],h4⟩
  ·cases h
 | .c n ag sz::r,ps,h=>by
  simp only [zLY] at h
  split at h
  ·rename_i k o h1
   split at h
   ·rename_i c p qs h2 h3
    cases hb:cck (.load ag sz (.t n)) st.val st.box with
    | false=>rw [hb] at h;cases h
    | true=>
     rw [hb] at h
     simp only [cond_true,Option.some.injEq] at h;subst h
     obtain ⟨c',h4,h5⟩:=zJu h3
     exact ⟨c∧c',by simp only [resL,h1,h2,h4],zMW h2 hb,h5⟩
   ·cases h
  ·cases h
theorem zXh {st:St} {res:List RV} {p:PV} (h:resQ res st=some p):∃c,resP res st=some (c,p)∧c:=by
 unfold resQ at h
 split at h
 ·rename_i q h1
  simp only [Option.some.injEq] at h;subst h
  obtain ⟨c,h2,h3⟩:=zJu h1
  exact ⟨c,by simp only [resP,h2],h3⟩
 ·rename_i ps hne h1
  simp only [Option.some.injEq] at h;subst h
  obtain ⟨c,h2,h3⟩:=zJu h1
  refine ⟨c, ?_,h3⟩
  unfold resP
  rw [h2]
  split
  ·rename_i c' q e;simp only [Option.some.injEq,Prod.mk.injEq] at e;exact absurd e.2 (hne q)
  ·rename_i c' qs _ e;simp only [Option.some.injEq,Prod.mk.injEq] at e;obtain ⟨rfl,rfl⟩:=e;rfl
  ·rename_i e;cases e
 ·cases h
def Fnl (res:List RV) (r:PV) (bx':List (Tg×List PV)) (k:Kd) (st:St):Prop:=
 (match k with | .exit _=>False | _=>True)∧∃p,resQ res st=some p∧Sub ⟨[(0,p)],st.bx⟩ ⟨[(0,r)],bx'⟩
section
variable {P:Program} {N:Nat} {Q:Kd→St→Prop}
theorem zYH {f:FuncId} {fn:Func} {c:Code} {res:List RV} {ps:List PV} {bx bx':List (Tg×List PV)} {r:PV} (hf:P.funcs[f]? =some fn) (hb:fn.body=some c) (hn:(fn.name== "runtime.NumGoroutine")=false)
  (hr:zJA P fn.results.toList=some res) (hl:ps.length≤fn.ntmps) (h:Ev P fn.ntmps c (zJ8 ps bx) (fun k s=>∃st2,Sub s st2∧Fnl res r bx' k st2)):EvG P f ps bx r bx':=by
 refine ⟨⟨fn,hf,by simp [hb],hn⟩,fun E w vs hv hs hsz=> ?_⟩
 refine zQK hf hb ?_
 have hs':StR E w (zJ8 ps bx) (vs++Array.replicate (fn.ntmps-vs.size) undef):=by
  refine ⟨fun d p hm=> ?_,hs.bx⟩
  obtain ⟨u,h1,h2⟩:=hs.tm d p hm
  refine ⟨u, ?_,h2⟩
  have:=(Array.getElem?_eq_some_iff.1 h1).1
  rw [Array.getElem?_append_left this];exact h1
 refine wp_mono (h E w ⟨vs++Array.replicate (fn.ntmps-vs.size) undef,[]⟩ (by simp;omega) hv hs') ?_
 rintro e a' w1 ⟨k,st',E',rfl,⟨st2,gs,g0,p,g1,g1'⟩,g2⟩
 obtain ⟨E1,g3⟩:=g2.sub gs
 clear g2
 obtain ⟨l,hl1,hl2,hl3,hv2,hstr2,hstep2⟩:=g3.shut
 obtain ⟨w',hw'⟩:∃w',shut l w1=w':=⟨_,rfl⟩
 rw [hw'] at hv2 hstr2 hstep2
 have g2:Told fn.ntmps E w a'.defers E1 w' st2 a':=⟨g3.size,rfl,hv2,hstr2,hstep2⟩
 clear g3
 have fin:∃v,(results fn a'.tmps).run P w'= .ok v w'∧∃E2,zAm E2 w'∧StR E2 w' ⟨[(0,r)],bx'⟩ #[v]∧Step E w E2 w':=by
  obtain ⟨cnd,hres,hc⟩:=zXh g1
  obtain ⟨v,g3,g4⟩:=zVw hr g2.str hres hc
  have g5:StR E1 w' ⟨[(0,p)],st2.bx⟩ #[v]:=by
   refine ⟨fun d q hm=> ?_,g2.str.bx⟩
   simp only [List.mem_singleton] at hm;cases hm
   exact ⟨v,rfl,g4⟩
  obtain ⟨E2,k1,k2,k3⟩:=g1' E1 w' #[v] g2.valid g5
  exact ⟨v,g3,E2,k1,k2,g2.step.trans k3⟩
 obtain ⟨v,g3,E2,g4,g5,g6⟩:=fin
 cases k with
 | norm=>exact ⟨.inl rfl,l,hl1,hl2,hl3,v,by rw [hw'];exact g3,v,E2,rfl,by rw [hw'];exact g4,by rw [hw'];exact g5,by rw [hw'];exact g6⟩
 | ret=>exact ⟨.inr rfl,l,hl1,hl2,hl3,v,by rw [hw'];exact g3,v,E2,rfl,by rw [hw'];exact g4,by rw [hw'];exact g5,by rw [hw'];exact g6⟩
 | exit i=>exact g0.elim
theorem zZb {f:FuncId} {ac:AC} {N:Nat} {res:List RV} {ps:List PV} {bx bx':List (Tg×List PV)} {r:PV} (hf:fnA P f=some (N,res,ac)) (hl:ps.length≤N) (h:go P N (Fnl res r bx') [.c ac] .norm (zJ8 ps bx)):EvG P f ps bx r bx':=by
 unfold fnA at hf
 split at hf
 ·rename_i fn h1
  split at hf
  ·rename_i c h2
   split at hf
   ·rename_i ac' res' h3 h4
    split at hf
    ·cases hf
    ·rename_i h5
     cases hf
     exact zYH h1 h2 (by simpa using h5) h4 hl (h c h3)
   ·cases hf
  ·cases hf
 ·cases hf
variable {β γ:Type} {m m1 m2:Option β} {R:β→Kd→St→Prop} {ks ks':List Fr} {k k':Kd} {st st':St}
def gok:Option (Nat×Bool)→St→Prop
 | none,_=>True
 | some (t,b),st=>st.get t=some (.d (.bool b))
def gst:Option (Nat×Bool)→St→St
 | none,st=>st
 | some (t,b),st=>st.lit t b
theorem zA9 {q:Bool} {dst:Option Nat} {g:Option (Nat×Bool)} {n:Nat} {op:AOp} {r:List zAo} (hg:gok g st) (h:zAY P n op (gst g st) fun v s=>go P N Q (.o q r::ks) .norm (s.putO dst v)):go P N Q (.o q (⟨dst,g,n,op⟩::r)::ks) .norm st:=by
 cases g with
 | none=>
  cases q
  ·exact zSV rfl h
  ·simp only [go,cond_true,zBC];exact h
 | some tb=>
  obtain ⟨t,b⟩:=tb
  have hg':st.get t=some (.d (.bool b)):=hg
  cases q
  ·exact zMq rfl hg' (fun _=>h) (fun e=>by cases b<;>cases e)
  ·simp only [go,cond_true,zBC,hg']
   exact ⟨fun _=>h,fun e=>by cases b<;>cases e⟩
theorem zHB {n:Nat} {op:AOp} {c:Prop} {v:PV} {K:PV→St→Prop} (h:rop op st.val st.box=some (c,v)) (hc:c) (hK:K v st):zAY P n op st K:=by
 unfold zAY;rw [h];exact ⟨hc,hK⟩
theorem zNg {n:Nat} {op:AOp} {c:Prop} {v:PV} {st':St} {K:PV→St→Prop} (h0:rop op st.val st.box=none) (h:wop (16*n+15) op st=some (c,v,st')) (hc:c) (hK:K v st'):zAY P n op st K:=by
 unfold zAY;rw [h0];simp only;rw [h];exact ⟨hc,hK⟩
def rowE:Option PV→Option (List D)
 | some (.d (.lst es))=>some es
 | some (.sl _ _ _ es)=>some es
 | some .nils=>some []
 | _=>none
section ops
variable {α:Type} {enc:α→D} {l:List α} {q:Bool} {dst:Option Nat} {g:Option (Nat×Bool)} {n:Nat} {r:List zAo} {x y i:Opd} {sz:Nat}
theorem L_len (hg:gok g st) (h:rowE ((gst g st).val x)=some (l.map enc)) (next:Ok m fun b=>go P N (R b) (.o q r::ks) .norm ((gst g st).putO dst (.d (.int .i64 (l.length:Int))))):
  Ok m fun b=>go P N (R b) (.o q (⟨dst,g,n, .len x⟩::r)::ks) .norm st:=by
 refine next.mono fun b hb=>zA9 hg ?_
 unfold rowE at h
 split at h
 ·rename_i es hx
  simp only [Option.some.injEq] at h;subst h
  exact zHB (c:=True) (by simp only [rop,hx,List.length_map]) trivial hb
 ·rename_i t s o es hx
  simp only [Option.some.injEq] at h;subst h
  exact zHB (c:=True) (by simp only [rop,hx,List.length_map]) trivial hb
 ·rename_i hx
  simp only [Option.some.injEq] at h
  have:l=[]:=by cases l<;>simp at h;rfl
  subst this
  exact zHB (c:=True) (v:= .d (.int .i64 0)) (by simp only [rop,hx]) trivial hb
 ·cases h
def at' {α:Type} [Inhabited α] (l:List α) (i:Int):α:=l.getD i.toNat default
theorem getD'_map [Inhabited α] {i:Int} (h0:0≤i) (h1:i<(l.length:Int)):zFE (l.map enc) i.toNat=enc (at' l i):=by
 unfold zFE at'
 have:i.toNat<l.length:=by omega
 simp [this]
theorem L_idxD [Inhabited α] {ki:IntKind} {iv:Int} (hg:gok g st) (hx:(gst g st).val x=some (.d (.lst (l.map enc)))) (hi:ix (gst g st).val i=some (ki,iv)) (hs:∀y:α,(enc y).sz=sz)
  (next:0≤iv∧iv<(l.length:Int)→Ok m fun b=>go P N (R b) (.o q r::ks) .norm ((gst g st).putO dst (.d (.cp (enc (at' l iv)).cells 0)))):
  Ok (if 0≤iv∧iv<(l.length:Int) then m else none) fun b=>go P N (R b) (.o q (⟨dst,g,n, .idxA sz x i⟩::r)::ks) .norm st:=by
 intro b hb
 split at hb
 ·rename_i hc
  refine zA9 hg (zHB (v:= .d (.cp (enc (at' l iv)).cells 0)) (c:=0≤iv∧iv<((l.map enc).length:Int)∧(enc (at' l iv)).sz=sz) ?_ ⟨hc.1,by rw [List.length_map];exact hc.2,hs _⟩ (next hc b hb))
  simp only [rop,hx,hi,getD'_map hc.1 hc.2]
 ·cases hb
theorem L_idxO [Inhabited α] {t:Tg} {off:Nat} {ki:IntKind} {iv:Int} (hg:gok g st) (hx:(gst g st).val x=some (.sl t sz off (l.map enc))) (hi:ix (gst g st).val i=some (ki,iv))
  (next:0≤iv∧iv<(l.length:Int)→Ok m fun b=>go P N (R b) (.o q r::ks) .norm ((gst g st).putO dst (.ep t sz (off+iv.toNat) none (some (enc (at' l iv)))))):
  Ok (if 0≤iv∧iv<(l.length:Int) then m else none) fun b=>go P N (R b) (.o q (⟨dst,g,n, .idxA sz x i⟩::r)::ks) .norm st:=by
 intro b hb
 split at hb
 ·rename_i hc
  refine zA9 hg (zHB (v:= .ep t sz (off+iv.toNat) none (some (enc (at' l iv)))) (c:=0≤iv∧iv<((l.map enc).length:Int)) ?_ ⟨hc.1,by rw [List.length_map];exact hc.2⟩ (next hc b hb))
  simp only [rop,hx,hi,getD'_map hc.1 hc.2,if_true]
 ·cases hb
def room (B n:Nat):Prop:=n≤140737488355328∧n*B≤140737488355328
instance (B n:Nat):Decidable (room B n):=inferInstanceAs (Decidable (_∧_))
theorem L_app {t:Tg} {off el B:Nat} {l2:List α} (hg:gok g st) (hx:(gst g st).val x=some (.sl t sz off (l.map enc))) (hy:((gst g st).val y).bind (zDk sz)=some (l2.map enc)) (hs:∀y:α,(enc y).sz=sz)
  (next:room B (l++l2).length→Ok m fun b=>go P N (R b) (.o q r::ks) .norm ((((gst g st).rebind t).rebind (.s (16*n+15))).putO dst (.sl (.s (16*n+15)) sz 0 ((l++l2).map enc)))):
  Ok (if room B (l++l2).length then m else none) fun b=>go P N (R b) (.o q (⟨dst,g,n, .app el sz B x y⟩::r)::ks) .norm st:=by
 intro b hb
 split at hb
 ·rename_i hc
  refine zA9 hg (zNg (v:= .sl (.s (16*n+15)) sz 0 (l.map enc++l2.map enc)) (st':=((gst g st).rebind t).rebind (.s (16*n+15))) rfl
   (c:=(l.map enc).length+(l2.map enc).length≤140737488355328∧((l.map enc).length+(l2.map enc).length)*B≤140737488355328∧(∀e∈l2.map enc,e.sz=sz)) ?_ ?_ ?_)
  ·simp only [wop,hx,hy,if_true]
  ·rw [room,List.length_append] at hc
   refine ⟨by simpa using hc.1,by simpa using hc.2,fun e he=> ?_⟩
   obtain ⟨z,_,rfl⟩:=List.mem_map.1 he
   exact hs z
  ·rw [←List.map_append];exact next hc b hb
 ·cases hb
theorem L_appN {el B:Nat} {l2:List α} (hg:gok g st) (hx:(gst g st).val x=some .nils) (hy:((gst g st).val y).bind (zDk sz)=some (l2.map enc)) (hs:∀y:α,(enc y).sz=sz)
  (next:room B l2.length→Ok m fun b=>go P N (R b) (.o q r::ks) .norm ((((gst g st).rebind (.s (16*n+15))).rebind (.s (16*n+15))).putO dst (.sl (.s (16*n+15)) sz 0 (l2.map enc)))):
  Ok (if room B l2.length then m else none) fun b=>go P N (R b) (.o q (⟨dst,g,n, .app el sz B x y⟩::r)::ks) .norm st:=by
 intro b hb
 split at hb
 ·rename_i hc
  refine zA9 hg (zNg (v:= .sl (.s (16*n+15)) sz 0 (l2.map enc)) (st':=((gst g st).rebind (.s (16*n+15))).rebind (.s (16*n+15))) rfl
   (c:=(l2.map enc).length≤140737488355328∧(l2.map enc).length*B≤140737488355328∧(∀e∈l2.map enc,e.sz=sz)) ?_ ?_ (next hc b hb))
  ·simp only [wop,hx,hy]
  ·refine ⟨by simpa using hc.1,by simpa using hc.2,fun e he=> ?_⟩
   obtain ⟨z,_,rfl⟩:=List.mem_map.1 he
   exact hs z
 ·cases hb
def bnd (f:Opd→Option PV):Option Opd→Option (Option Int)
 | none=>some none
 | some o=>(ix f o).map fun r=>some r.2
def cutOk (a b:Option Int) (n:Nat):Prop:=0≤a.getD 0∧a.getD 0≤b.getD n∧b.getD n≤n
instance (a b:Option Int) (n:Nat):Decidable (cutOk a b n):=inferInstanceAs (Decidable (_∧_∧_))
def cut' {α:Type} (l:List α) (a b:Option Int):List α:=(l.take (b.getD l.length).toNat).drop (a.getD 0).toNat
theorem cut_map {a b:Option Int}:cutL (l.map enc) (a.getD 0).toNat (b.getD (l.length:Int)).toNat=(cut' l a b).map enc:=by
 simp only [cutL,cut',List.map_take,List.map_drop]
theorem bnd_bound {f:Opd→Option PV} {o:Option Opd} {a:Option Int} {d:Nat} (h:bnd f o=some a):zHb f o d=some (a,(a.getD d).toNat):=by
 cases o with
 | none=>simp only [bnd,Option.some.injEq] at h;subst h;simp [zHb]
 | some o=>
  simp only [bnd,Option.map_eq_some_iff] at h
  obtain ⟨r,h1,h2⟩:=h
  subst h2
  simp [zHb,h1]
theorem cutOk_inB {a b:Option Int} {n:Nat} (h:cutOk a b n):inB b 0 n∧inB a 0 (b.getD n).toNat:=by
 obtain ⟨h1,h2,h3⟩:=h
 cases a<;>cases b<;>simp [inB] at* <;>omega
theorem L_cutD {lo hi:Option Opd} {a b:Option Int} (hg:gok g st) (hx:(gst g st).val x=some (.d (.lst (l.map enc)))) (hlo:bnd (gst g st).val lo=some a) (hhi:bnd (gst g st).val hi=some b) (hs:∀y:α,(enc y).sz=sz)
  (next:cutOk a b l.length→Ok m fun c=>go P N (R c) (.o q r::ks) .norm ((gst g st).putO dst (.d (.lst ((cut' l a b).map enc))))):
  Ok (if cutOk a b l.length then m else none) fun c=>go P N (R c) (.o q (⟨dst,g,n, .sliceS sz x lo hi none⟩::r)::ks) .norm st:=by
 intro z hz
 split at hz
 ·rename_i hc
  have hc':=cutOk_inB hc
  refine zA9 hg (zHB (v:= .d (.lst ((cut' l a b).map enc))) (c:=inB b 0 (l.map enc).length∧inB a 0 (b.getD (l.map enc).length).toNat∧∀e∈l.map enc,e.sz=sz) ?_ ?_ (next hc z hz))
  ·have e:=cut_map (enc:=enc) (l:=l) (a:=a) (b:=b)
   rw [←e]
   have:=bnd_bound (d:=0) hlo
   simp only [rop,hx,bnd_bound (d:=0) hlo,bnd_bound (d:=(l.map enc).length) hhi]
   simp only [List.length_map,Int.natCast_zero]
  ·rw [List.length_map]
   refine ⟨hc'.1,hc'.2,fun e he=> ?_⟩
   obtain ⟨z,_,rfl⟩:=List.mem_map.1 he
   exact hs z
 ·cases hz
theorem L_cutO {t:Tg} {off:Nat} {lo hi:Option Opd} {a b:Option Int} (hg:gok g st) (hx:(gst g st).val x=some (.sl t sz off (l.map enc))) (hlo:bnd (gst g st).val lo=some a) (hhi:bnd (gst g st).val hi=some b)
  (next:cutOk a b l.length→Ok m fun c=>go P N (R c) (.o q r::ks) .norm ((gst g st).putO dst (.sl t sz (off+(a.getD 0).toNat) ((cut' l a b).map enc)))):
  Ok (if cutOk a b l.length then m else none) fun c=>go P N (R c) (.o q (⟨dst,g,n, .sliceS sz x lo hi none⟩::r)::ks) .norm st:=by
 intro z hz
 split at hz
 ·rename_i hc
  have hc':=cutOk_inB hc
  refine zA9 hg (zHB (v:= .sl t sz (off+(a.getD 0).toNat) ((cut' l a b).map enc)) (c:=inB b 0 (l.map enc).length∧inB a 0 (b.getD (l.map enc).length).toNat) ?_ ?_ (next hc z hz))
  ·rw [←cut_map (enc:=enc) (l:=l) (a:=a) (b:=b)]
   simp only [rop,hx,bnd_bound (d:=0) hlo,bnd_bound (d:=(l.map enc).length) hhi]
   simp only [List.length_map,Int.natCast_zero,if_true]
  ·rw [List.length_map];exact hc'
 ·cases hz
theorem L_mk {el B:Nat} {z:D} {z0:α} {lo co:Opd} {k1 k2:IntKind} {a b:Int} (hg:gok g st) (hl:ix (gst g st).val lo=some (k1,a)) (hc:ix (gst g st).val co=some (k2,b)) (hz:z=enc z0)
  (next:0≤a∧a≤b∧b≤140737488355328∧b*(B:Int)≤140737488355328→Ok m fun c=>go P N (R c) (.o q r::ks) .norm (((gst g st).rebind (.s (16*n+15))).putO dst (.sl (.s (16*n+15)) sz 0 ((List.replicate a.toNat z0).map enc)))):
  Ok (if 0≤a∧a≤b∧b≤140737488355328∧b*(B:Int)≤140737488355328 then m else none) fun c=>go P N (R c) (.o q (⟨dst,g,n, .mkS el sz B z lo co⟩::r)::ks) .norm st:=by
 intro w hw
 split at hw
 ·rename_i h
  refine zA9 hg (zNg (v:= .sl (.s (16*n+15)) sz 0 ((List.replicate a.toNat z0).map enc)) (st':=(gst g st).rebind (.s (16*n+15))) rfl (c:=0≤a∧a≤b∧b≤140737488355328∧b*(B:Int)≤140737488355328) ?_ h (next h w hw))
  simp only [wop,hl,hc,List.map_replicate,hz]
 ·cases hw
theorem L_appZ {el B:Nat} {z:D} {z0:α} {k1:IntKind} {a:Int} (hg:gok g st) (hx:(gst g st).val x=some .nils) (hl:ix (gst g st).val y=some (k1,a)) (hz:z=enc z0)
  (next:0≤a∧a≤140737488355328∧a*(B:Int)≤140737488355328→Ok m fun c=>go P N (R c) (.o q r::ks) .norm (((gst g st).rebind (.s (16*n+15))).putO dst (.sl (.s (16*n+15)) sz 0 ((List.replicate a.toNat z0).map enc)))):
  Ok (if 0≤a∧a≤140737488355328∧a*(B:Int)≤140737488355328 then m else none) fun c=>go P N (R c) (.o q (⟨dst,g,n, .appZ el sz B z x y⟩::r)::ks) .norm st:=by
 intro w hw
 split at hw
 ·rename_i h
  refine zA9 hg (zNg (v:= .sl (.s (16*n+15)) sz 0 ((List.replicate a.toNat z0).map enc)) (st':=(gst g st).rebind (.s (16*n+15))) rfl (c:=0≤a∧a≤140737488355328∧a*(B:Int)≤140737488355328) ?_ h (next h w hw))
  simp only [wop,hx,hl,List.map_replicate,hz]
 ·cases hw
theorem L_sto {t:Tg} {s i:Nat} {f:Option Nat} {e:Option D} {p:PV} {d:D} (hg:gok g st) (ha:(gst g st).val x=some (.ep t s i f e)) (hx:(gst g st).val y=some p) (hd:p.toD=some d)
  (hc:t∉p.tags∧f.getD 0+sz≤s∧(f=none→sz=s)∧0<sz) (hs:d.sz=sz) (next:Ok m fun c=>go P N (R c) (.o q r::ks) .norm ((((gst g st).frz p.tags).map (updF t s i (zEP f d))).putO dst .unk)):
  Ok m fun c=>go P N (R c) (.o q (⟨dst,g,n, .store sz x y⟩::r)::ks) .norm st:=by
 refine next.mono fun z hz=>zA9 hg (zNg (v:= .unk) (st':=((gst g st).frz p.tags).map (updF t s i (zEP f d))) rfl (c:=d.sz=sz) ?_ hs hz)
 simp only [wop,ha,hx,hd,if_pos hc]
def cpyL {α:Type} (l l2:List α):List α:=l2.take l.length++l.drop l2.length
theorem cpy_map {l2:List α}:cpyE (l2.map enc) l.length (l.map enc)=(cpyL l l2).map enc:=by
 simp only [cpyE,cpyL,List.length_map,Nat.min_self,List.map_append,List.map_take,List.map_drop]
 congr 1
 rcases Nat.le_total l.length l2.length with h | h
 ·rw [Nat.min_eq_left h,List.drop_of_length_le (by simp),List.drop_of_length_le (by simpa using h)]
 ·rw [Nat.min_eq_right h]
theorem L_cpy {t:Tg} {off:Nat} {l2:List α} {p:PV} (hg:gok g st) (hx:(gst g st).val x=some (.sl t sz off (l.map enc))) (hy:(gst g st).val y=some p) (hl:zDk sz p=some (l2.map enc)) (ht:t∉p.tags)
  (hs:∀y:α,(enc y).sz=sz) (next:Ok m fun c=>go P N (R c) (.o q r::ks) .norm (((gst g st).map (cpyF t sz off l.length (l2.map enc))).putO dst (.d (.int .i64 ((min l.length l2.length:Nat):Int))))):
  Ok m fun c=>go P N (R c) (.o q (⟨dst,g,n, .copy sz x y⟩::r)::ks) .norm st:=by
 refine next.mono fun z hz=>zA9 hg (zNg (v:= .d (.int .i64 ((min l.length l2.length:Nat):Int))) (st':=(gst g st).map (cpyF t sz off l.length (l2.map enc))) rfl (c:=∀e∈l2.map enc,e.sz=sz) ?_ ?_ hz)
 ·simp only [wop,hx,hy,hl,List.length_map]
  rw [if_pos ⟨trivial,ht⟩]
 ·intro e he
  obtain ⟨y,_,rfl⟩:=List.mem_map.1 he
  exact hs y
theorem set_map {i:Nat} {v:α}:zEP none (enc v) (l.map enc) i=(l.set i v).map enc:=by simp [zEP,List.map_set]
theorem L_rd {op:AOp} {c:Prop} [Decidable c] {v:PV} (hg:gok g st) (h:rop op (gst g st).val (gst g st).box=some (c,v)) (next:c→Ok m fun b=>go P N (R b) (.o q r::ks) .norm ((gst g st).putO dst v)):
  Ok (if c then m else none) fun b=>go P N (R b) (.o q (⟨dst,g,n,op⟩::r)::ks) .norm st:=by
 intro b hb
 split at hb
 ·rename_i hc;exact zA9 hg (zHB h hc (next hc b hb))
 ·cases hb
end ops
theorem zZp {mc:Option γ} {kk:γ→Option β} {enR:γ→PV} {ds:List D} {q:Bool} {dst:Option Nat} {g:Option (Nat×Bool)} {n f:Nat} {args:List Opd} {r:List zAo} (hm:∀v,mc=some v→EvF P f ds (enR v)) (hg:gok g st)
  (h1:(zA8 (gst g st).val args).bind (PV.toDBL (gst g st).box)=some ds) (h2:∀v,(enR v).rok=true) (h3:∀v,(enR v).noLst)
  (next:∀v,Ok (kk v) fun b=>go P N (R b) (.o q r::ks) .norm (((gst g st).rebinds n (enR v).tags).putO dst ((enR v).mapT (zFl n)))):
  Ok (mc>>=kk) fun b=>go P N (R b) (.o q (⟨dst,g,n, .call f args⟩::r)::ks) .norm st:=by
 intro b hb
 obtain ⟨v,hv,hk⟩:=Option.bind_eq_some_iff.1 hb
 exact zA9 hg (show zAY P n (.call f args) (gst g st) _ from (by
  unfold zAY
  simp only [rop,wop,zCS]
  exact zZQ (hm v hv) h1 (h2 v) (h3 v) (next v b hk)))
theorem zY9 {mc:Option γ} {kk:γ→Option β} {enR:γ→PV} {ds:List D} (F:List Tg) {q:Bool} {dst:Option Nat} {g:Option (Nat×Bool)} {n f:Nat} {args:List Opd} {r:List zAo} (hm:∀v,mc=some v→EvF P f ds (enR v)) (hg:gok g st)
  (h1:(zA8 (gst g st).val args).bind PV.toDL=some ds) (hF:(zA8 (gst g st).val args).map PV.tagsL=some F) (h2:∀v,(enR v).rok=true)
  (next:∀v,Ok (kk v) fun b=>go P N (R b) (.o q r::ks) .norm ((((gst g st).frz F).rebinds n (enR v).tags).putO dst ((enR v).mapT (zFl n)))):
  Ok (mc>>=kk) fun b=>go P N (R b) (.o q (⟨dst,g,n, .call f args⟩::r)::ks) .norm st:=by
 intro b hb
 obtain ⟨v,hv,hk⟩:=Option.bind_eq_some_iff.1 hb
 exact zA9 hg (show zAY P n (.call f args) (gst g st) _ from (by
  unfold zAY
  simp only [rop,wop,zCS]
  exact zZZ F (hm v hv) h1 hF (h2 v) (next v b hk)))
theorem zX2 {mc:Option γ} {kk:γ→Option β} {enR:γ→PV} {ds:List D} {q:Bool} {dst:Option Nat} {g:Option (Nat×Bool)} {n f:Nat} {x:Opd} {a b:List D} {as:List PV} {args:List Opd} {r:List zAo} (hm:∀v,mc=some v→EvF P f ds (enR v)) (hg:gok g st)
  (hx:(gst g st).val x=some (.d (.clo (.func f) a b))) (h0:zA8 (gst g st).val args=some as)
  (h1:PV.toDL (a.map .d++as++b.map .d)=some ds) (h2:∀v,(enR v).rok=true)
  (next:∀v,Ok (kk v) fun z=>go P N (R z) (.o q r::ks) .norm ((((gst g st).frz (PV.tagsL (a.map .d++as++b.map .d))).rebinds n (enR v).tags).putO dst ((enR v).mapT (zFl n)))):
  Ok (mc>>=kk) fun z=>go P N (R z) (.o q (⟨dst,g,n, .callv x args⟩::r)::ks) .norm st:=by
 intro z hz
 obtain ⟨v,hv,hk⟩:=Option.bind_eq_some_iff.1 hz
 refine zA9 hg ?_
 unfold zAY
 simp only [rop,wop,zCS]
 rw [hx,h0]
 exact .inl ⟨ds,enR v,hm v hv,h2 v, .inr ⟨h1,next v z hk⟩⟩
theorem zUZ {mc:Option γ} {kk:γ→Option β} {enR:γ→PV} {ds:List D} {q:Bool} {dst:Option Nat} {g:Option (Nat×Bool)} {n f:Nat} {x:Opd} {a b as:List PV} {args:List Opd} {r:List zAo} (hm:∀v,mc=some v→EvF P f ds (enR v)) (hg:gok g st)
  (hx:(gst g st).val x=some (.clo (.func f) a b)∨∃a' b',(gst g st).val x=some (.d (.clo (.func f) a' b'))∧a=a'.map .d∧b=b'.map .d) (h0:zA8 (gst g st).val args=some as)
  (h1:PV.toDBL (gst g st).box (a++as++b)=some ds) (h2:∀v,(enR v).rok=true) (h3:∀v,(enR v).noLst)
  (next:∀v,Ok (kk v) fun b=>go P N (R b) (.o q r::ks) .norm (((gst g st).rebinds n (enR v).tags).putO dst ((enR v).mapT (zFl n)))):
  Ok (mc>>=kk) fun b=>go P N (R b) (.o q (⟨dst,g,n, .callv x args⟩::r)::ks) .norm st:=by
 intro z hz
 obtain ⟨v,hv,hk⟩:=Option.bind_eq_some_iff.1 hz
 refine zA9 hg ?_
 unfold zAY
 simp only [rop,wop,zCS]
 rcases hx with hx | ⟨a',b',hx,rfl,rfl⟩
 ·rw [hx,h0];exact .inl ⟨ds,enR v,hm v hv,h2 v, .inl ⟨h1,h3 v,next v z hk⟩⟩
 ·rw [hx,h0];exact .inl ⟨ds,enR v,hm v hv,h2 v, .inl ⟨h1,h3 v,next v z hk⟩⟩
theorem go_app:∀{fs:List Fr} {k:Kd} {st:St} {R1:Kd→St→Prop},go P N R1 fs k st→(∀k s,R1 k s→go P N Q ks k s)→(∀k,cl ks k=true)→go P N Q (fs++ks) k st
 | [],k,st,R1,⟨s2,h1,h2⟩,hq,hc=>go_sub (hc k) (hq _ _ h2) h1
 | .c a::fs,k,st,R1,h,hq,hc=>by
  cases k with
  | norm=>exact EvC.mono h fun k s hk=>go_app hk hq hc
  | exit i=>exact go_app (fs:=fs) h hq hc
  | ret=>exact go_app (fs:=fs) h hq hc
 | .l a::fs,k,st,R1,h,hq,hc=>by
  cases k with
  | norm=>exact EvL.mono h fun k s hk=>go_app hk hq hc
  | exit i=>exact go_app (fs:=fs) h hq hc
  | ret=>exact go_app (fs:=fs) h hq hc
 | .h a::fs,k,st,R1,h,hq,hc=>by
  cases k with
  | norm=>exact ⟨h.1,go_app h.2 hq hc⟩
  | exit i=>exact go_app (fs:=fs) h hq hc
  | ret=>exact go_app (fs:=fs) h hq hc
 | .o x a::fs,k,st,R1,h,hq,hc=>by
  cases k with
  | norm=>
   cases x with
   | false=>exact EvO.mono h fun s hk=>go_app hk hq hc
   | true=>exact zFo h fun s hk=>go_app hk hq hc
  | exit i=>exact go_app (fs:=fs) h hq hc
  | ret=>exact go_app (fs:=fs) h hq hc
 | .b j::fs,k,st,R1,h,hq,hc=>by
  cases k with
  | norm=>exact go_app (fs:=fs) h hq hc
  | ret=>exact go_app (fs:=fs) h hq hc
  | exit i=>
   simp only [go,List.cons_append] at h⊢
   split
   ·rename_i e;rw [if_pos e] at h;exact go_app h hq hc
   ·rename_i e;rw [if_neg e] at h;exact go_app h hq hc
def zGw {γ:Type} (k1:Kd) (S':γ→St) (v:γ):Kd→St→Prop:=fun k s=>k=k1∧Sub s (S' v)
def zHZ {ρ γ:Type} (QR:ρ→Kd→St→Prop) (k1:Kd) (S':γ→St):Sum ρ γ→Kd→St→Prop
 | .inl r=>fun k s=>k= .ret∧QR r .ret s
 | .inr v=>fun k s=>k=k1∧Sub s (S' v)
theorem zYB {mj:Option γ} {kk:γ→Option β} {fs:List Fr} {k1:Kd} {S0:St} {S':γ→St} (hj:Ok mj fun v=>go P N (zGw k1 S' v) fs .norm S0)
  (next:∀v,Ok (kk v) fun b=>go P N (R b) ks k1 (S' v)) (hfit:fit st S0=some S0:=by kernel_rfl) (h0:cl fs .norm=true:=by kernel_rfl) (hc:∀k,cl ks k=true:=by intro k;cases k<;>rfl):Ok (mj>>=kk) fun b=>go P N (R b) (fs++ks) .norm st:=by
 intro b hb
 obtain ⟨v,hv,hk⟩:=Option.bind_eq_some_iff.1 hb
 have h1:go P N (zGw k1 S' v) fs .norm st:=go_sub h0 (hj v hv) (zE7 hfit)
 exact go_app h1 (fun k s ⟨e,hs⟩=>by subst e;exact go_sub (hc _) (next v b hk) hs) hc
theorem zXF {ρ:Type} {mj:Option (Sum ρ γ)} {kf:Sum ρ γ→Option β} {fs:List Fr} {QR:ρ→Kd→St→Prop} {k1:Kd} {S0:St} {S':γ→St}
  (hj:Ok mj fun v=>go P N (zHZ QR k1 S' v) fs .norm S0)
  (hr:∀r,Ok (kf (.inl r)) fun b=>∀s,QR r .ret s→go P N (R b) ks .ret s)
  (next:∀v,Ok (kf (.inr v)) fun b=>go P N (R b) ks k1 (S' v)) (hfit:fit st S0=some S0:=by kernel_rfl) (h0:cl fs .norm=true:=by kernel_rfl) (hc:∀k,cl ks k=true:=by intro k;cases k<;>rfl):Ok (mj>>=kf) fun b=>go P N (R b) (fs++ks) .norm st:=by
 intro b hb
 obtain ⟨e,he,hk⟩:=Option.bind_eq_some_iff.1 hb
 have h1:=go_sub h0 (hj _ he) (zE7 hfit)
 cases e with
 | inl r=>exact go_app h1 (fun k s ⟨e,hs⟩=>by subst e;exact hr r b hk s hs) hc
 | inr v=>exact go_app h1 (fun k s ⟨e,hs⟩=>by subst e;exact go_sub (hc _) (next v b hk) hs) hc
theorem zWs {mj:Option γ} {kk:γ→Option β} (fs ks:List Fr) (S':γ→St) (hj:Ok mj fun v=>go P N (zGw .norm S' v) fs .norm st)
  (next:∀v,Ok (kk v) fun b=>go P N (R b) ks .norm (S' v)) (hc:∀k,cl ks k=true:=by intro k;cases k<;>rfl):Ok (mj>>=kk) fun b=>go P N (R b) (fs++ks) .norm st:=by
 intro b hb
 obtain ⟨v,hv,hk⟩:=Option.bind_eq_some_iff.1 hb
 exact go_app (hj v hv) (fun k s ⟨e,hs⟩=>by subst e;exact go_sub (hc _) (next v b hk) hs) hc
theorem zUJ {ρ:Type} {mj:Option (Sum ρ γ)} {kf:Sum ρ γ→Option β} {QR:ρ→Kd→St→Prop} (fs ks:List Fr) (S':γ→St)
  (hj:Ok mj fun v=>go P N (zHZ QR .norm S' v) fs .norm st) (hr:∀r,Ok (kf (.inl r)) fun b=>∀s,QR r .ret s→go P N (R b) ks .ret s)
  (next:∀v,Ok (kf (.inr v)) fun b=>go P N (R b) ks .norm (S' v)) (hc:∀k,cl ks k=true:=by intro k;cases k<;>rfl):Ok (mj>>=kf) fun b=>go P N (R b) (fs++ks) .norm st:=by
 intro b hb
 obtain ⟨e,he,hk⟩:=Option.bind_eq_some_iff.1 hb
 cases e with
 | inl r=>exact go_app (hj _ he) (fun k s ⟨e,hs⟩=>by subst e;exact hr r b hk s hs) hc
 | inr v=>exact go_app (hj _ he) (fun k s ⟨e,hs⟩=>by subst e;exact go_sub (hc _) (next v b hk) hs) hc
theorem zVR:∀{a b:List zAo} {st:St} {K:St→Prop},EvO P N a st (fun s=>EvO P N b s K)→EvO P N (a++b) st K:=by
 intro a b st K h E0 w0 d0 ops Q hQ l n hl E w act hT
 suffices ∀(a:List zAo) (l:List Oper) (n:Nat),zAT P N ops n l=some (a++b)→∃l1 l2,l=l1++l2∧zAT P N ops n l1=some a∧zAT P N ops (n+l1.length) l2=some b by
  obtain ⟨l1,l2,rfl,h1,h2⟩:=this a l n hl
  have:=h E0 w0 d0 ops (exQ Q (wpList P ops Q l2)) (fun E' w' s' a' hT' hK=>hK E0 w0 d0 ops Q hQ l2 _ h2 E' w' a' hT') l1 n h1 E w act hT
  exact zI5 this
 intro a
 induction a with
 | nil=>intro l n hl;exact ⟨[],l,rfl,rfl,by simpa using hl⟩
 | cons x a ih=>
  intro l n hl
  cases l with
  | nil=>simp [zAT] at hl
  | cons o l=>
   simp only [zAT] at hl
   split at hl
   ·rename_i ao as h1 h2
    simp only [Option.some.injEq,List.cons_append,List.cons.injEq] at hl
    obtain ⟨rfl,rfl⟩:=hl
    obtain ⟨l1,l2,rfl,h3,h4⟩:=ih l (n+1) h2
    exact ⟨o::l1,l2,rfl,by simp only [zAT,h1,h3],by rw [List.length_cons,show n+(l1.length+1)=n+1+l1.length by omega];exact h4⟩
   ·cases hl
theorem zW3 (j:Nat) (o1 o2:List zAo) {os:List zAo} (next:Ok m fun r=>go P N (R r) (.o false o1:: .o false o2::ks) .norm st) (h1:os.take j=o1:=by kernel_rfl) (h2:os.drop j=o2:=by kernel_rfl):Ok m fun r=>go P N (R r) (.o false os::ks) .norm st:=by
 refine next.mono fun r hr=> ?_
 have e:os=o1++o2:=by rw [←h1,←h2,List.take_append_drop]
 rw [e]
 exact zVR hr
def finB (res:List RV) (r:PV) (bx':List (Tg×List PV)) (st:St):Option St:=match resQ res st with
 | some p=>fit ⟨[(0,p)],st.bx⟩ ⟨[(0,r)],bx'⟩
 | none=>none
end
def enL {α:Type} (f:α→D) (l:List α):D:= .lst (l.map f)
theorem zIn {α:Type} {f:α→D} {l:List α} (h:∀x,(f x).flatD):∀e∈l.map f,e.flatD:=by
 intro e he
 obtain ⟨x,_,rfl⟩:=List.mem_map.1 he
 exact h x
end Go.Proofs.YtnmlihfpenjeiaaGreat.Abs
namespace Go.Proofs.YtnmlihfpenjeiaaGreat.Abs
open Go Go.RowKit
set_option linter.unusedVariables false
set_option linter.unusedSimpArgs false
section
variable {P:Program} {N:Nat} {Q:Kd→St→Prop}
variable {β γ:Type} {m m1 m2:Option β} {R:β→Kd→St→Prop} {ks ks':List Fr} {k k':Kd} {st st':St}
theorem zY1 {mc:Option γ} {kk:γ→Option β} {enR:γ→PV} {bx':γ→List (Tg×List PV)} {ps:List PV} {bx:List (Tg×List PV)} (ρ:List (Tg×Tg)) (F:List Tg) {q:Bool} {dst:Option Nat} {g:Option (Nat×Bool)} {n f:Nat} {args:List Opd} {r:List zAo}
  (hm:∀v,mc=some v→EvG P f ps bx (enR v) (bx' v)) (hg:gok g st) (h1:zEX (ρ.map Prod.snd)=true) (h2:upIn ρ bx=true) (h3:∀v,(enR v).gok ρ=true) (h4:∀v,gokB ρ (bx' v)=true)
  (h5:∀v,(zA8 (((gst g st).frz F).rebinds n ((enR v).tags++zBh (bx' v))).val args).bind (fun as=>cvL (gvR ρ) (gvB ρ) as ps)=some ps)
  (h6:∀v,cvBx (gvR ρ) (gvB ρ) (((gst g st).frz F).rebinds n ((enR v).tags++zBh (bx' v))) bx=some bx)
  (next:∀v,Ok (kk v) fun b=>go P N (R b) (.o q r::ks) .norm (((((gst g st).frz F).rebinds n ((enR v).tags++zBh (bx' v))).give ρ n (bx' v)).putO dst ((enR v).mapT (sgF ρ n)))):
  Ok (mc>>=kk) fun b=>go P N (R b) (.o q (⟨dst,g,n, .call f args⟩::r)::ks) .norm st:=by
 intro b hb
 obtain ⟨v,hv,hk⟩:=Option.bind_eq_some_iff.1 hb
 refine zA9 hg (show zAY P n (.call f args) (gst g st) _ from ?_)
 unfold zAY
 simp only [rop,wop,zCS]
 refine zZU (hm v hv) ρ F (zDZ h1) h2 (h3 v) (h4 v) ?_ (zHs (h6 v)) (next v b hk)
 have:=h5 v
 obtain ⟨as,g1,g2⟩:=Option.bind_eq_some_iff.1 this
 rw [g1]
 exact zHI _ _ g2
def cvA (gs:List Tg) (ρ β:Nm):List PV→List PV→Option (List PV)
 | as,[]=>match as with
  | []=>some []
  | _=>none
 | as,q::qs=>match as with
  | []=>none
  | a::as=>match q with
   | .d _=>bif a.tags.all (fun t=> !(decide (t∈gs))) then (match a.toD,cvA gs ρ β as qs with
    | some y,some z=>some (.d y::z)
    | _,_=>none) else none
   | q=>match cvP ρ β a q,cvA gs ρ β as qs with
    | some y,some z=>some (y::z)
    | _,_=>none
theorem zMv {gs:List Tg} {ρ β:Nm}:∀(qs as:List PV),cvA gs ρ β as qs=some qs→zKu gs ρ β as qs
 | [],as,h=>by
  unfold cvA at h
  split at h
  ·trivial
  ·cases h
 | q::qs,as,h=>by
  unfold cvA at h
  split at h
  ·cases h
  ·rename_i a as
   split at h
   ·rename_i y
    cases hb:a.tags.all (fun t=> !(decide (t∈gs))) with
    | false=>rw [hb] at h;cases h
    | true=>
     rw [hb] at h
     simp only [cond_true] at h
     split at h
     ·rename_i z w h1 h2
      simp only [Option.some.injEq,List.cons.injEq,PV.d.injEq] at h
      obtain ⟨rfl,rfl⟩:=h
      refine ⟨⟨h1,fun t ht=> ?_⟩,zMv _ _ h2⟩
      have:=List.all_eq_true.1 hb t ht
      simpa using this
     ·cases h
   ·rename_i hq
    split at h
    ·rename_i z w h1 h2
     simp only [Option.some.injEq,List.cons.injEq] at h
     obtain ⟨rfl,rfl⟩:=h
     refine ⟨?_,zMv _ _ h2⟩
     have:=zPi _ _ h1
     cases z<;>first | exact this | exact absurd rfl (hq _)
    ·cases h
theorem zYF {mc:Option γ} {kk:γ→Option β} {enR:γ→PV} {bx':γ→List (Tg×List PV)} {ps:List PV} {bx:List (Tg×List PV)} (ρ:List (Tg×Tg)) {q:Bool} {dst:Option Nat} {g:Option (Nat×Bool)} {n f:Nat} {args:List Opd} {r:List zAo}
  (hm:∀v,mc=some v→EvG P f ps bx (enR v) (bx' v)) (hg:gok g st) (h1:zEX (ρ.map Prod.snd)=true) (h2:upIn ρ bx=true) (h3:∀v,(enR v).gok ρ=true) (h4:∀v,gokB ρ (bx' v)=true)
  (h5:∀v,(zA8 ((gst g st).rebinds n ((enR v).tags++zBh (bx' v))).val args).bind (fun as=>cvA (ρ.map Prod.snd) (gvR ρ) (gvB ρ) as ps)=some ps)
  (h6:∀v,cvBx (gvR ρ) (gvB ρ) ((gst g st).rebinds n ((enR v).tags++zBh (bx' v))) bx=some bx) (h8:∀v,(enR v).noLst) (h9:∀v,zF7 (bx' v))
  (next:∀v,Ok (kk v) fun b=>go P N (R b) (.o q r::ks) .norm ((((gst g st).rebinds n ((enR v).tags++zBh (bx' v))).give ρ n (bx' v)).putO dst ((enR v).mapT (sgF ρ n)))):
  Ok (mc>>=kk) fun b=>go P N (R b) (.o q (⟨dst,g,n, .call f args⟩::r)::ks) .norm st:=by
 intro b hb
 obtain ⟨v,hv,hk⟩:=Option.bind_eq_some_iff.1 hb
 refine zA9 hg (show zAY P n (.call f args) (gst g st) _ from ?_)
 unfold zAY
 simp only [rop,wop,zCS]
 refine zZM (hm v hv) ρ (zDZ h1) h2 (h3 v) (h4 v) ?_ (zHs (h6 v)) (h8 v) (h9 v) (next v b hk)
 have:=h5 v
 obtain ⟨as,g1,g2⟩:=Option.bind_eq_some_iff.1 this
 rw [g1]
 exact zMv _ _ g2
theorem zXq {mc:Option γ} {kk:γ→Option β} {enR:γ→PV} {bx':γ→List (Tg×List PV)} {ps:List PV} {bx:List (Tg×List PV)} (ρ:List (Tg×Tg)) {q:Bool} {dst:Option Nat} {g:Option (Nat×Bool)} {n f:Nat} {x:Opd} {ca cb:List PV} {args:List Opd} {r:List zAo}
  (hm:∀v,mc=some v→EvG P f ps bx (enR v) (bx' v)) (hg:gok g st) (hx:(gst g st).val x=some (.clo (.func f) ca cb)) (h1:zEX (ρ.map Prod.snd)=true) (h2:upIn ρ bx=true) (h3:∀v,(enR v).gok ρ=true) (h4:∀v,gokB ρ (bx' v)=true)
  (h5:∀v,(zLs f x args ((gst g st).rebinds n ((enR v).tags++zBh (bx' v)))).bind (fun as=>cvA (ρ.map Prod.snd) (gvR ρ) (gvB ρ) as ps)=some ps)
  (h6:∀v,cvBx (gvR ρ) (gvB ρ) ((gst g st).rebinds n ((enR v).tags++zBh (bx' v))) bx=some bx) (h8:∀v,(enR v).noLst) (h9:∀v,zF7 (bx' v))
  (next:∀v,Ok (kk v) fun b=>go P N (R b) (.o q r::ks) .norm ((((gst g st).rebinds n ((enR v).tags++zBh (bx' v))).give ρ n (bx' v)).putO dst ((enR v).mapT (sgF ρ n)))):
  Ok (mc>>=kk) fun b=>go P N (R b) (.o q (⟨dst,g,n, .callv x args⟩::r)::ks) .norm st:=by
 intro b hb
 obtain ⟨v,hv,hk⟩:=Option.bind_eq_some_iff.1 hb
 refine zA9 hg (show zAY P n (.callv x args) (gst g st) _ from ?_)
 unfold zAY
 simp only [rop,wop,zCS]
 refine .inr ?_
 rw [hx]
 obtain ⟨as,g1,g2⟩:=Option.bind_eq_some_iff.1 (h5 v)
 exact ⟨ps,bx,enR v,bx' v,ρ,[],as,hm v hv,zDZ h1,h2,h3 v,h4 v,g1,zHs (h6 v), .inr ⟨zMv _ _ g2,h8 v,h9 v⟩,next v b hk⟩
theorem zXT {mc:Option γ} {kk:γ→Option β} {enR:γ→PV} {bx':γ→List (Tg×List PV)} {ps:List PV} {bx:List (Tg×List PV)} (ρ:List (Tg×Tg)) (F:List Tg) {q:Bool} {dst:Option Nat} {g:Option (Nat×Bool)} {n f:Nat} {x:Opd} {ca cb:List PV} {args:List Opd} {r:List zAo}
  (hm:∀v,mc=some v→EvG P f ps bx (enR v) (bx' v)) (hg:gok g st) (hx:(gst g st).val x=some (.clo (.func f) ca cb)) (h1:zEX (ρ.map Prod.snd)=true) (h2:upIn ρ bx=true) (h3:∀v,(enR v).gok ρ=true) (h4:∀v,gokB ρ (bx' v)=true)
  (h5:∀v,(zLs f x args (((gst g st).frz F).rebinds n ((enR v).tags++zBh (bx' v)))).bind (fun as=>cvL (gvR ρ) (gvB ρ) as ps)=some ps)
  (h6:∀v,cvBx (gvR ρ) (gvB ρ) (((gst g st).frz F).rebinds n ((enR v).tags++zBh (bx' v))) bx=some bx)
  (next:∀v,Ok (kk v) fun b=>go P N (R b) (.o q r::ks) .norm (((((gst g st).frz F).rebinds n ((enR v).tags++zBh (bx' v))).give ρ n (bx' v)).putO dst ((enR v).mapT (sgF ρ n)))):
  Ok (mc>>=kk) fun b=>go P N (R b) (.o q (⟨dst,g,n, .callv x args⟩::r)::ks) .norm st:=by
 intro b hb
 obtain ⟨v,hv,hk⟩:=Option.bind_eq_some_iff.1 hb
 refine zA9 hg (show zAY P n (.callv x args) (gst g st) _ from ?_)
 unfold zAY
 simp only [rop,wop,zCS]
 refine .inr ?_
 rw [hx]
 obtain ⟨as,g1,g2⟩:=Option.bind_eq_some_iff.1 (h5 v)
 exact ⟨ps,bx,enR v,bx' v,ρ,F,as,hm v hv,zDZ h1,h2,h3 v,h4 v,g1,zHs (h6 v), .inl (zHI _ _ g2),next v b hk⟩
theorem zZT {mc:Option γ} {kk:γ→Option β} {sz:Nat} {es xs:List D} {es':γ→List D} {kx:γ→Option Nat} {q:Bool} {dst:Option Nat} {g:Option (Nat×Bool)} {n f:Nat} {args:List Opd} {r:List zAo} {t:Tg} {off:Nat} {as:List PV}
  (hm:∀v,mc=some v→EvI P f sz es xs (es' v) (kx v)) (hg:gok g st) (h1:zA8 (gst g st).val args=some (.sl t sz off es::as)) (h2:PV.toDL as=some xs) (h3:PV.tagsL as=[])
  (next:∀v,mc=some v→Ok (kk v) fun b=>go P N (R b) (.o q r::ks) .norm (((gst g st).map (cpyF t sz off (es' v).length (es' v))).putO dst (resI (kx v) t sz off (es' v)))):
  Ok (mc>>=kk) fun b=>go P N (R b) (.o q (⟨dst,g,n, .call f args⟩::r)::ks) .norm st:=by
 intro b hb
 obtain ⟨v,hv,hk⟩:=Option.bind_eq_some_iff.1 hb
 refine zA9 hg (show zAY P n (.call f args) (gst g st) _ from ?_)
 unfold zAY
 simp only [rop,wop,zCS]
 refine .inl ?_
 rw [h1]
 exact .inr ⟨t,sz,off,es,as,xs,es' v,kx v,rfl,hm v hv,h2,h3,next v hv b hk⟩
theorem zYz {mc:Option γ} {kk:γ→Option β} {enR:γ→PV} {ds:List D} {q:Bool} {dst:Option Nat} {g:Option (Nat×Bool)} {n f:Nat} {x:Opd} {m:String} {t:Nat} {px p0:PV} {as:List PV} {args:List Opd} {r:List zAo} (hm:∀v,mc=some v→EvF P f ds (enR v)) (hg:gok g st)
  (hx:(gst g st).val x=some (.ifc t px)) (hi:invF P t m (gst g st).box px=some (f,p0)) (h0:zA8 (gst g st).val args=some as)
  (h1:PV.toDBL (gst g st).box (p0::as)=some ds) (h2:∀v,(enR v).rok=true) (h3:∀v,(enR v).noLst)
  (next:∀v,Ok (kk v) fun b=>go P N (R b) (.o q r::ks) .norm (((gst g st).rebinds n (enR v).tags).putO dst ((enR v).mapT (zFl n)))):
  Ok (mc>>=kk) fun b=>go P N (R b) (.o q (⟨dst,g,n, .invk x m args⟩::r)::ks) .norm st:=by
 intro z hz
 obtain ⟨v,hv,hk⟩:=Option.bind_eq_some_iff.1 hz
 refine zA9 hg (show zAY P n (.invk x m args) (gst g st) _ from ?_)
 unfold zAY
 simp only [rop,wop,zCS]
 rw [hx,h0]
 simp only [hi]
 exact .inl ⟨ds,enR v,hm v hv,h2 v, .inl ⟨h1,h3 v,next v z hk⟩⟩
theorem zXl {mc:Option γ} {kk:γ→Option β} {enR:γ→PV} {bx':γ→List (Tg×List PV)} {ps:List PV} {bx:List (Tg×List PV)} (ρ:List (Tg×Tg)) {q:Bool} {dst:Option Nat} {g:Option (Nat×Bool)} {n f:Nat} {x:Opd} {m:String} {t:Nat} {px p0:PV} {as0:List PV} {args:List Opd} {r:List zAo}
  (hm:∀v,mc=some v→EvG P f ps bx (enR v) (bx' v)) (hg:gok g st) (hx:(gst g st).val x=some (.ifc t px)) (hi:invF P t m (gst g st).box px=some (f,p0)) (h0:zA8 (gst g st).val args=some as0)
  (h1:zEX (ρ.map Prod.snd)=true) (h2:upIn ρ bx=true) (h3:∀v,(enR v).gok ρ=true) (h4:∀v,gokB ρ (bx' v)=true)
  (h5:∀v,(invA P f x m args ((gst g st).rebinds n ((enR v).tags++zBh (bx' v)))).bind (fun as=>cvA (ρ.map Prod.snd) (gvR ρ) (gvB ρ) as ps)=some ps)
  (h6:∀v,cvBx (gvR ρ) (gvB ρ) ((gst g st).rebinds n ((enR v).tags++zBh (bx' v))) bx=some bx) (h8:∀v,(enR v).noLst) (h9:∀v,zF7 (bx' v))
  (next:∀v,Ok (kk v) fun b=>go P N (R b) (.o q r::ks) .norm ((((gst g st).rebinds n ((enR v).tags++zBh (bx' v))).give ρ n (bx' v)).putO dst ((enR v).mapT (sgF ρ n)))):
  Ok (mc>>=kk) fun b=>go P N (R b) (.o q (⟨dst,g,n, .invk x m args⟩::r)::ks) .norm st:=by
 intro b hb
 obtain ⟨v,hv,hk⟩:=Option.bind_eq_some_iff.1 hb
 refine zA9 hg (show zAY P n (.invk x m args) (gst g st) _ from ?_)
 unfold zAY
 simp only [rop,wop,zCS]
 rw [hx,h0]
 simp only [hi]
 obtain ⟨as,g1,g2⟩:=Option.bind_eq_some_iff.1 (h5 v)
 exact .inr (.inr ⟨ps,bx,enR v,bx' v,ρ,[],as,hm v hv,zDZ h1,h2,h3 v,h4 v,g1,zHs (h6 v), .inr ⟨zMv _ _ g2,h8 v,h9 v⟩,next v b hk⟩)
theorem zXW {mc:Option γ} {kk:γ→Option β} {enR:γ→PV} {bx':γ→List (Tg×List PV)} {ps:List PV} {bx:List (Tg×List PV)} (ρ:List (Tg×Tg)) (F:List Tg) {q:Bool} {dst:Option Nat} {g:Option (Nat×Bool)} {n f:Nat} {x:Opd} {m:String} {t:Nat} {px p0:PV} {as0:List PV} {args:List Opd} {r:List zAo}
  (hm:∀v,mc=some v→EvG P f ps bx (enR v) (bx' v)) (hg:gok g st) (hx:(gst g st).val x=some (.ifc t px)) (hi:invF P t m (gst g st).box px=some (f,p0)) (h0:zA8 (gst g st).val args=some as0)
  (h1:zEX (ρ.map Prod.snd)=true) (h2:upIn ρ bx=true) (h3:∀v,(enR v).gok ρ=true) (h4:∀v,gokB ρ (bx' v)=true)
  (h5:∀v,(invA P f x m args (((gst g st).frz F).rebinds n ((enR v).tags++zBh (bx' v)))).bind (fun as=>cvL (gvR ρ) (gvB ρ) as ps)=some ps)
  (h6:∀v,cvBx (gvR ρ) (gvB ρ) (((gst g st).frz F).rebinds n ((enR v).tags++zBh (bx' v))) bx=some bx)
  (next:∀v,Ok (kk v) fun b=>go P N (R b) (.o q r::ks) .norm (((((gst g st).frz F).rebinds n ((enR v).tags++zBh (bx' v))).give ρ n (bx' v)).putO dst ((enR v).mapT (sgF ρ n)))):
  Ok (mc>>=kk) fun b=>go P N (R b) (.o q (⟨dst,g,n, .invk x m args⟩::r)::ks) .norm st:=by
 intro b hb
 obtain ⟨v,hv,hk⟩:=Option.bind_eq_some_iff.1 hb
 refine zA9 hg (show zAY P n (.invk x m args) (gst g st) _ from ?_)
 unfold zAY
 simp only [rop,wop,zCS]
 rw [hx,h0]
 simp only [hi]
 obtain ⟨as,g1,g2⟩:=Option.bind_eq_some_iff.1 (h5 v)
 exact .inr (.inr ⟨ps,bx,enR v,bx' v,ρ,F,as,hm v hv,zDZ h1,h2,h3 v,h4 v,g1,zHs (h6 v), .inl (zHI _ _ g2),next v b hk⟩)
theorem zZy {z:D} {ok:Bool} {q:Bool} {dst:Option Nat} {g:Option (Nat×Bool)} {n:Nat} {kk:IntKind} {x i:Opd} {t:Tg} {o:Nat} {iv:Int} {cs:List PV} {r:List zAo} (hg:gok g st) (hx:(gst g st).val x=some (.ptr t o)) (hM:t.isM=true) (hi:(gst g st).val i=some (.d (.int kk iv)))
  (hc:(gst g st).box t=some cs) (next:Ok m fun b=>zFY kk iv (.d z) (fun p e=>go P N (R b) (.o q r::ks) .norm ((gst g st).putO dst (if ok=true then .tup [p, .d (.bool e)] else p))) cs):
  Ok m fun b=>go P N (R b) (.o q (⟨dst,g,n, .look kk z ok x i⟩::r)::ks) .norm st:=by
 intro b hb
 refine zA9 hg (show zAY P n (.look kk z ok x i) (gst g st) _ from ?_)
 unfold zAY
 simp only [rop,wop,zCS]
 rw [hx,hi]
 refine ⟨hM,rfl, ?_⟩
 rw [hc]
 exact next b hb
theorem L_lk {K:β→PV→Bool→Prop} {kk:IntKind} {iv c:Int} {z p:PV} {cs:List PV} (h1:iv=c→Ok m1 fun b=>K b p true) (h2:¬iv=c→Ok m2 fun b=>zFY kk iv z (K b) cs):
  Ok (if iv=c then m1 else m2) fun b=>zFY kk iv z (K b) (.d (.int kk c)::p::cs):=by
 intro b hb
 simp only [zFY]
 refine ⟨trivial,fun e=>h1 e b (by rw [if_pos e] at hb;exact hb),fun e=>h2 e b (by rw [if_neg e] at hb;exact hb)⟩
theorem zRR {l:List (List DIt)} (f1 f2:List Fr) (h1:Ok m fun r=>go P N (R r) f1 .norm st) (h2:Ok m fun r=>go P N (R r) f2 .norm st) (h:frDs l ks=some [f1,f2]:=by kernel_rfl):Ok m fun r=>go P N (R r) (.c (.draws l)::ks) .norm st:=
 fun r hr=>zKJ h fun f hf=>by
  rcases List.mem_cons.1 hf with rfl | hf
  ·exact h1 r hr
  ·rcases List.mem_cons.1 hf with rfl | hf
   ·exact h2 r hr
   ·simp at hf
theorem zXz {l:List (List DIt)} (f1 f2 f3:List Fr) (h1:Ok m fun r=>go P N (R r) f1 .norm st) (h2:Ok m fun r=>go P N (R r) f2 .norm st) (h3:Ok m fun r=>go P N (R r) f3 .norm st) (h:frDs l ks=some [f1,f2,f3]:=by kernel_rfl):Ok m fun r=>go P N (R r) (.c (.draws l)::ks) .norm st:=
 fun r hr=>zKJ h fun f hf=>by
  rcases List.mem_cons.1 hf with rfl | hf
  ·exact h1 r hr
  ·rcases List.mem_cons.1 hf with rfl | hf
   ·exact h2 r hr
   ·rcases List.mem_cons.1 hf with rfl | hf
    ·exact h3 r hr
    ·simp at hf
def strB (l:List Int):ByteArray:=zD6 (l.map (D.int .u8))
theorem zUz {l:List Int} {q:Bool} {dst:Option Nat} {g:Option (Nat×Bool)} {n:Nat} {x:Opd} {r:List zAo} (hg:gok g st) (hx:(gst g st).val x=some (.d (.lst (l.map (D.int .u8))))∨∃t off,(gst g st).val x=some (.sl t 1 off (l.map (D.int .u8))))
  (next:Ok m fun b=>go P N (R b) (.o q r::ks) .norm ((gst g st).putO dst (.d (.str (strB l))))):Ok m fun b=>go P N (R b) (.o q (⟨dst,g,n, .convS x⟩::r)::ks) .norm st:=by
 refine next.mono fun b hb=>zA9 hg ?_
 have hu:∀e∈l.map (D.int .u8),e.isU8:=by
  intro e he
  obtain ⟨z,_,rfl⟩:=List.mem_map.1 he
  trivial
 rcases hx with hx | ⟨t,off,hx⟩
 ·exact zHB (c:=∀e∈l.map (D.int .u8),e.isU8) (by simp only [rop,hx,strB]) hu hb
 ·exact zHB (c:=∀e∈l.map (D.int .u8),e.isU8) (by simp only [rop,hx,strB]) hu hb
theorem zZI {α:Type} {enc:α→D} {l:List α} {q:Bool} {dst:Option Nat} {g:Option (Nat×Bool)} {n:Nat} {op:BinOp} {e:Bool} {x:Opd} {r:List zAo} (hg:gok g st) (h:zJ5 op .slice ((gst g st).val x) (some .nils)=some (e,l.map enc)) (hq:l.length=0→m1=m2)
  (h1:Ok m1 fun b=>go P N (R b) (.o q r::ks) .norm ((gst g st).putO dst (.d (.bool (!e))))) (h2:Ok m2 fun b=>go P N (R b) (.o q r::ks) .norm ((gst g st).putO dst (.d (.bool e)))):
  Ok m1 fun b=>go P N (R b) (.o q (⟨dst,g,n, .bin op .slice x (.c .nils)⟩::r)::ks) .norm st:=by
 intro b hb
 refine zA9 hg (show zAY P n (.bin op .slice x (.c .nils)) (gst g st) _ from ?_)
 have hr:rop (.bin op .slice x (.c .nils)) (gst g st).val (gst g st).box=none:=by
  simp only [rop]
  unfold zJ5 at h
  split at h
  ·rename_i hx hy
   rw [hx];rfl
  ·rename_i hx hy
   rw [hx];rfl
  ·rename_i hx hy
   rw [hx];rfl
  ·rename_i hx hy
   rw [hx];rfl
  ·cases h
 unfold zAY
 rw [hr]
 simp only [wop,zCS]
 have hv:St.val (gst g st) (.c .nils)=some .nils:=rfl
 rw [hv,h]
 refine ⟨fun _=>h1 b hb,fun he c=> ?_⟩
 have hl:l.length=0:=by have:=congrArg List.length he;simpa using this
 cases c<;>cases e<;>first | exact h1 b hb | (have:=hq hl;rw [this] at hb;exact h2 b hb)
end
def selL (d:Nat):List (Nat×PV)→List PV
 | []=>[]
 | (e,v)::r=>bif e==d then v::selL d r else selL d r
theorem zRa {d:Nat} {v:PV}:∀{l:List (Nat×PV)},(∀u∈selL d l,u=v)→zJD d v l
 | [],_=>trivial
 | (e,u)::r,h=>by
  simp only [selL] at h
  simp only [zJD]
  refine ⟨fun he=> ?_,zRa fun w hw=>h w ?_⟩
  ·subst he
   exact h u (by simp)
  ·cases hb:e==d<;>simp [hw]
theorem zOn {d:Nat} {v:PV} {l:List (Nat×PV)} (h:selL d l=[v]):zJD d v l:=zRa fun u hu=>by rw [h] at hu;simpa using hu
section
variable {P:Program} {N:Nat} {β:Type} {m:Option β} {R:β→Kd→St→Prop} {ks:List Fr} {st:St}
theorem zZe {S:List zAo} (h:zBT S st) (next:Ok m fun r=>go P N (R r) ks .norm st):Ok m fun r=>go P N (R r) (.h S::ks) .norm st:=fun r hr=>⟨h,next r hr⟩
theorem hX {o:zAo} {d:Nat} {c:Prop} {v:PV} (hd:o.dst=some d) (hg:gok o.guard st) (hr:rop o.op st.val st.box=some (c,v)) (hc:c) (h3:selL d st.tm=[v]):Holds o st:=by
 have hR:zMP o st:=by
  unfold zMP zIo
  rw [hr]
  simp only [hd]
  exact ⟨hc,zOn h3⟩
 unfold Holds
 obtain ⟨dst,g,n,op⟩:=o
 cases g with
 | none=>exact hR
 | some tb=>
  obtain ⟨t,b⟩:=tb
  have hg':st.get t=some (.d (.bool b)):=hg
  simp only [hg']
  exact ⟨fun _=>hR,fun e=>by cases b<;>cases e⟩
theorem hN {o:zAo} {d t:Nat} {b:Bool} (hgd:o.guard=some (t,b)) (hv:st.get t=some (.tup [])∨st.get t=some (.d (.bool (!b)))) (hd:o.dst=some d:=by rfl) (h3:selL d st.tm=[.tup []]:=by kernel_rfl):Holds o st:=by
 unfold Holds
 rw [hgd]
 simp only
 rcases hv with hv | hv
 ·rw [hv];simp only [hd];exact zOn h3
 ·rw [hv];simp only [hd]
  exact And.intro (fun e=>absurd e (by cases b<;>decide)) (fun _=>zOn h3)
theorem hLen {α:Type} {enc:α→D} {l:List α} {d n:Nat} {g:Option (Nat×Bool)} {x:Opd} (hg:gok g st) (hx:rowE (st.val x)=some (l.map enc)) (h3:selL d st.tm=[.d (.int .i64 (l.length:Int))]:=by kernel_rfl):Holds ⟨some d,g,n, .len x⟩ st:=by
 unfold rowE at hx
 split at hx
 ·rename_i es he
  simp only [Option.some.injEq] at hx;subst hx
  exact hX rfl hg (c:=True) (v:= .d (.int .i64 (l.length:Int))) (by simp only [rop,he,List.length_map]) trivial h3
 ·rename_i t s o es he
  simp only [Option.some.injEq] at hx;subst hx
  exact hX rfl hg (c:=True) (v:= .d (.int .i64 (l.length:Int))) (by simp only [rop,he,List.length_map]) trivial h3
 ·rename_i he
  simp only [Option.some.injEq] at hx
  have:l=[]:=by cases l<;>simp at hx;rfl
  subst this
  exact hX rfl hg (c:=True) (v:= .d (.int .i64 0)) (by simp only [rop,he]) trivial h3
 ·cases hx
theorem zZ0 {α:Type} {enc:α→D} {l:List α} [Inhabited α] {ki:IntKind} {iv:Int} {d n sz:Nat} {g:Option (Nat×Bool)} {x i:Opd} (hg:gok g st) (hx:st.val x=some (.d (.lst (l.map enc)))) (hi:ix st.val i=some (ki,iv)) (hs:∀y:α,(enc y).sz=sz)
  (hc:0≤iv∧iv<(l.length:Int)) (h3:selL d st.tm=[.d (.cp (enc (at' l iv)).cells 0)]:=by kernel_rfl):Holds ⟨some d,g,n, .idxA sz x i⟩ st:=
 hX rfl hg (c:=0≤iv∧iv<((l.map enc).length:Int)∧(enc (at' l iv)).sz=sz) (v:= .d (.cp (enc (at' l iv)).cells 0)) (by simp only [rop,hx,hi,getD'_map hc.1 hc.2]) ⟨hc.1,by rw [List.length_map];exact hc.2,hs _⟩ h3
theorem zZP {α:Type} {enc:α→D} {l:List α} [Inhabited α] {t:Tg} {off:Nat} {ki:IntKind} {iv:Int} {d n sz:Nat} {g:Option (Nat×Bool)} {x i:Opd} (hg:gok g st) (hx:st.val x=some (.sl t sz off (l.map enc))) (hi:ix st.val i=some (ki,iv))
  (hc:0≤iv∧iv<(l.length:Int)) (h3:selL d st.tm=[.ep t sz (off+iv.toNat) none (some (enc (at' l iv)))]:=by kernel_rfl):Holds ⟨some d,g,n, .idxA sz x i⟩ st:=
 hX rfl hg (c:=0≤iv∧iv<((l.map enc).length:Int)) (v:= .ep t sz (off+iv.toNat) none (some (enc (at' l iv)))) (by simp only [rop,hx,hi,getD'_map hc.1 hc.2,if_true]) ⟨hc.1,by rw [List.length_map];exact hc.2⟩ h3
theorem zZE {α:Type} {enc:α→D} {l:List α} {a b:Option Int} {d n sz:Nat} {g:Option (Nat×Bool)} {x:Opd} {lo hi:Option Opd} (hg:gok g st) (hx:st.val x=some (.d (.lst (l.map enc)))) (hlo:bnd st.val lo=some a) (hhi:bnd st.val hi=some b) (hs:∀y:α,(enc y).sz=sz)
  (hc:cutOk a b l.length) (h3:selL d st.tm=[.d (.lst ((cut' l a b).map enc))]:=by kernel_rfl):Holds ⟨some d,g,n, .sliceS sz x lo hi none⟩ st:=by
 have hc':=cutOk_inB hc
 refine hX rfl hg (v:= .d (.lst ((cut' l a b).map enc))) (c:=inB b 0 (l.map enc).length∧inB a 0 (b.getD (l.map enc).length).toNat∧∀e∈l.map enc,e.sz=sz) ?_ ?_ h3
 ·rw [←cut_map (enc:=enc) (l:=l) (a:=a) (b:=b)]
  simp only [rop,hx,bnd_bound (d:=0) hlo,bnd_bound (d:=(l.map enc).length) hhi]
  simp only [List.length_map,Int.natCast_zero]
 ·rw [List.length_map]
  refine ⟨hc'.1,hc'.2,fun e he=> ?_⟩
  obtain ⟨z,_,rfl⟩:=List.mem_map.1 he
  exact hs z
theorem zZF {α:Type} {enc:α→D} {l:List α} {t:Tg} {off:Nat} {a b:Option Int} {d n sz:Nat} {g:Option (Nat×Bool)} {x:Opd} {lo hi:Option Opd} (hg:gok g st) (hx:st.val x=some (.sl t sz off (l.map enc))) (hlo:bnd st.val lo=some a) (hhi:bnd st.val hi=some b)
  (hc:cutOk a b l.length) (h3:selL d st.tm=[.sl t sz (off+(a.getD 0).toNat) ((cut' l a b).map enc)]:=by kernel_rfl):Holds ⟨some d,g,n, .sliceS sz x lo hi none⟩ st:=by
 have hc':=cutOk_inB hc
 refine hX rfl hg (v:= .sl t sz (off+(a.getD 0).toNat) ((cut' l a b).map enc)) (c:=inB b 0 (l.map enc).length∧inB a 0 (b.getD (l.map enc).length).toNat) ?_ ?_ h3
 ·rw [←cut_map (enc:=enc) (l:=l) (a:=a) (b:=b)]
  simp only [rop,hx,bnd_bound (d:=0) hlo,bnd_bound (d:=(l.map enc).length) hhi]
  simp only [List.length_map,Int.natCast_zero,if_true]
 ·rw [List.length_map];exact hc'
end
namespace Z
abbrev nI (x:Int):PV:= .d (.int .i64 x)
abbrev nU (x:Int):PV:= .d (.int .u64 x)
abbrev nY (x:Int):PV:= .d (.int .u8 x)
abbrev bB (x:Bool):PV:= .d (.bool x)
abbrev lI (l:List Int):PV:= .d (.lst (List.map (D.int .i64) l))
abbrev sI (t:Tg) (l:List Int):PV:= .sl t 1 0 (List.map (D.int .i64) l)
abbrev sB (t:Tg) (l:List Bool):PV:= .sl t 1 0 (List.map D.bool l)
abbrev gv (d t:Nat) (b:Bool) (n s:Nat):zAo:=⟨some d,some (t,b),n, .mov (.t s)⟩
abbrev xt (d n s j:Nat):zAo:=⟨some d,none,n, .extract (.t s) j⟩
end Z
end Go.Proofs.YtnmlihfpenjeiaaGreat.Abs
namespace Go.Proofs.YtnmlihfpenjeiaaGreat.Abs
open Go Go.RowKit
set_option linter.unusedVariables false
set_option linter.unusedSimpArgs false
section
variable {P:Program} {l n:Nat} {ops:Array Oper}
theorem zOJ {op:Op} {ao:AOp} (h:trOp P op=some ao) (c:Call):op≠ .defer c:=by
 rintro rfl
 simp [trOp] at h
theorem zYd {o:Oper} {a:Act} {w:World} {K K':Act→World→Prop} {Q Q':Exit→Act→World→Prop} (hd:∀c,o.op≠ .defer c) (hQ:¬LetsOut Q) (hp:∀ch a w,¬Q (.panic ch) a w)
  (hk:∀v ds w,K (({ a with defers:=ds }:Act).put o.dst v) w→K' (({ a with defers:=ds }:Act).put o.dst v) w) (h:o.wp P a w K Q):o.wpIn (Fence.wide.inRound l) n P a w K' Q':=by
 refine ⟨fun _ _=>trivial, ?_⟩
 rw [show (Fence.wide.inRound l).round=some l from rfl,Oper.semAt_some l _ o hd]
 unfold Oper.wp at h
 generalize (execOp a.eval o).run P w=r at*
 cases r with
 | ok x w'=>
  cases x<;>simp only [Oper.upon,Oper.uponIn] at h⊢
  case value v=>exact hk v a.defers _ h
  case skip=>exact hk undef a.defers _ h
  case defer d=>exact hk undef (d::a.defers) _ h
  case enter f args=>
   refine ⟨fun h=>by simp [Fence.wide] at h,CallsIn.mono (show CallsIn Fence.wide (n-1) P f args w' _ from callsIn_wide.2 h) ?_⟩
   intro e w2 he
   cases e with
   | returned v=>exact hk v a.defers _ he
   | panicked ch=>exact (hp _ _ _ he).elim
   | outgrown=>exact (hQ he).elim
  case row rw args=>
   refine ⟨fun h=>by simp [Fence.wide] at h,fun c cs _=> ?_⟩
   obtain ⟨v,w2,r1,r2⟩:=h c cs
   exact ⟨v,w2,hk v a.defers _ r1,stepsIn_wide.2 r2⟩
 | halt x w'=>
  cases x<;>simp only [Oper.upon,Oper.uponIn] at h⊢
  case panic v=>exact (hp _ _ _ h).elim
def zIu (ds:List Nat) (a0 a:Act):Prop:=∀t,t∉ds→a.tmps[t]? =a0.tmps[t]?
def zIk (ops:Array Oper):List Nat:=ops.toList.filterMap fun o=>o.dst
theorem zIu.put {a0 a:Act} {o:Oper} {ds:List Deferred} {v:Value} (h:zIu (zIk ops) a0 a) (ho:o∈ops):zIu (zIk ops) a0 (({ a with defers:=ds }:Act).put o.dst v):=by
 intro t ht
 rw [Act.put_get,if_neg]
 ·exact h t ht
 ·rintro ⟨hd,_⟩
  exact ht (List.mem_filterMap.2 ⟨o,by simpa using ho,hd⟩)
theorem zZu {Q Q':Exit→Act→World→Prop} {a0:Act} (hd:∀o∈ops,∀c,o.op≠ .defer c) (hQ:¬LetsOut Q) (hp:∀ch a w,¬Q (.panic ch) a w) (hn:∀a w,Q .normal a w→zIu (zIk ops) a0 a→Q' .normal a w):
  ∀(fuel:Nat) (listed:Array Bool) (a:Act) (w:World),zIu (zIk ops) a0 a→wpAny P .any ops Q fuel listed a w→wpAnyIn (Fence.wide.inRound l) n P .any ops Q' fuel listed a w:=by
 intro fuel
 induction fuel with
 | zero=>intro listed a w ha h;exact ⟨h.1,hn _ _ h.2 ha⟩
 | succ fuel ih=>
  intro listed a w ha h
  refine ⟨fun e=>hn _ _ (h.1 e) ha,fun i hi=> ?_⟩
  have h2:=h.2 i hi
  unfold wpOp at h2
  unfold wpOpIn
  split
  ·rename_i e
   rw [e] at h2
   exact ih _ _ _ ha h2
  ·rename_i o e
   rw [e] at h2
   simp only at h2
   have ho:o∈ops:=Array.mem_of_getElem? e
   split
   ·rename_i hw
    rw [if_pos hw] at h2
    rcases h2 with h2 | h2
    ·exact zYd (hd o ho) hQ hp (fun v ds w hk=>ih _ _ _ (ha.put ho) hk) h2
    ·exact (hQ h2.2).elim
   ·rename_i hw
    rw [if_neg hw] at h2
    exact ⟨fun _ _=>trivial,ih _ _ _ (ha.put (ds:=a.defers) ho) h2⟩
end
section
variable {P:Program} {N:Nat}
theorem zKT:∀{os:List Oper} {n:Nat} {al:List zAo} {ops:Array Oper},zAT P N ops n os=some al→∀o∈os,∃ao,trOp P o.op=some ao
 | [],n,al,ops,h,o,ho=>by simp at ho
 | x::r,n,al,ops,h,o,ho=>by
  simp only [zAT] at h
  split at h
  ·rename_i a as h1 h2
   rcases List.mem_cons.1 ho with rfl | ho
   ·exact ⟨_,(zCe h1).2.2.1⟩
   ·exact zKT h2 o ho
  ·cases h
theorem zYq {l n id:Nat} {ops:Array Oper} {al:List zAo} {its:List DIt} {st:St} {K:St→Prop} (ht:zAT P N ops (id*100) ops.toList=some al) (hd:zH7 P ops al=some its) (h:zAV P its st K)
  {E:Env} {w:World} {a:Act} (h1:a.tmps.size=N) (h2:zAm E w) (h3:StR E w st a.tmps):
  (Code.region id ops true).wpIn (Fence.wide.inRound l) n P (fun e a' w'=>e= .normal∧∃st' E',K st'∧Told N E w a.defers E' w' st' a'∧zIu (zIk ops) a a') a w:=by
 simp only [zH7] at hd
 split at hd
 ·rename_i hc
  simp only [Option.some.injEq] at hd;subst hd
  simp only [Bool.and_eq_true] at hc
  have hS:=zQP hc.2
  refine wpIn_region_any hc.1 ?_
  have hv:zAm E { w with drawn:=w.drawn+1 }:=⟨h2.row_lt,h2.box_lt,h2.row_row,h2.box_box,h2.row_box,h2.prot_lt⟩
  have hs:StR E { w with drawn:=w.drawn+1 } st a.tmps:=h3.keep (fun _ h=>h) (fun _ _=>rfl) (fun _ _ h=>⟨h,rfl⟩) (fun _ _ h=>⟨h,rfl⟩)
  have hT:Told N E w a.defers E { w with drawn:=w.drawn+1 } st a:=⟨h1,rfl,hv,hs,⟨rfl,rfl,rfl,Nat.le_refl _,(by first | exact Nat.le_refl _ | exact Nat.le_succ _),fun _ _ _=>rfl,fun _ h=> .inl h,fun _ h=>h,fun _ h=> .inl h,fun _ _ h=>h⟩⟩
  have hun:∀i,i<ops.size→(Array.replicate ops.size false).getD i true=false:=fun i hi=>by
   simp [Array.getD_eq_getD_getElem?,Array.getElem?_replicate,hi]
  refine zZu (Q:=fun e a' w'=>e= .normal∧∃st' E',K st'∧Told N E w a.defers E' w' st' a') (a0:=a) (fun o ho c=> ?_) ?_ ?_ ?_ _ _ _ _ (fun _ _=>rfl) ?_
  ·obtain ⟨ao,hao⟩:=zKT ht o (by simpa using ho)
   exact zOJ hao c
  ·rintro ⟨a,w,h,_⟩;cases h
  ·rintro ch a w ⟨h,_⟩;cases h
  ·rintro a w ⟨_,st',E',g1,g2⟩ g3;exact ⟨rfl,st',E',g1,g2,g3⟩
  ·refine zUQ (tb:=ancs ops ops.size) hS ht (K:=K) (fun E' w' st' a' hT hk=>⟨rfl,st',E',hk,hT⟩) ops.size _ [] _ a _ a E st rfl ?_ h ?_
   ·exact ⟨hT,fun i hi hl=>(by rw [hun i hi] at hl;cases hl),fun i hi=>(by simp at hi),fun i hi hl=>(by rw [hun i hi] at hl;cases hl),by simp,rfl,rfl,fun _ _=>rfl,fun i o hi=>(by simp at hi)⟩
   ·unfold unl
    exact Nat.le_trans (List.length_filter_le _ _) (by simp)
 ·cases hd
theorem zWb:∀{al:List zAo} {st:St} {K:St→Prop},zAV P (al.map fun o=>⟨o,true,[]⟩) st K→zBC P al st K
 | [],st,K,h=>h
 | o::r,st,K,h=>by
  have hm:∀{st2:St},(zBT [] st2∧zAV P (r.map fun o=>⟨o,true,[]⟩) st2 K)→zBC P r st2 K:=fun h=>zWb h.2
  simp only [List.map_cons,zAV,itK] at h
  simp only [zBC]
  split at h
  ·rename_i e
   exact zFy h fun v st' h=>hm h
  ·rename_i t b e
   split at h
   ·rename_i g e2
    try simp only [e2]
    exact ⟨fun hg=>zFy (h.1 hg) fun v st' h=>hm h,fun hg=>hm (h.2 hg)⟩
   ·rename_i e2
    try simp only [e2]
    exact hm h
   ·exact h.elim
theorem zUo {l n:Nat} {ops:Array Oper} {Q Q':Exit→Act→World→Prop} {a0:Act} (hd:∀o∈ops,∀c,o.op≠ .defer c) (hQ:¬LetsOut Q) (hp:∀ch a w,¬Q (.panic ch) a w) (hn:∀a w,Q .normal a w→zIu (zIk ops) a0 a→Q' .normal a w):
  ∀(os:List Oper) (hos:∀o∈os,o∈ops) (a:Act) (w:World),zIu (zIk ops) a0 a→wpList P ops Q os a w→wpListIn (Fence.wide.inRound l) n P ops Q' os a w
 | [],hos,a,w,ha,h=>hn _ _ h ha
 | o::os,hos,a,w,ha,h=>by
  have ih:=zUo (n:=n) (l:=l) hd hQ hp hn os (fun x hx=>hos x (by simp [hx]))
  have ho:o∈ops:=hos o (by simp)
  unfold wpList at h
  unfold wpListIn
  split
  ·rename_i hw
   rw [if_pos hw] at h
   rcases h with h | h
   ·exact zYd (hd o ho) hQ hp (fun v ds w hk=>ih _ _ (ha.put ho) hk) h
   ·exact (hQ h.2).elim
  ·rename_i hw
   rw [if_neg hw] at h
   exact ⟨fun _ _=>trivial,ih _ _ (ha.put (ds:=a.defers) ho) h⟩
theorem zZj {l n id:Nat} {ops:Array Oper} {al:List zAo} {st:St} {K:St→Prop} (ht:zAT P N ops (id*100) ops.toList=some al) (h:zBC P al st K)
  {E:Env} {w:World} {a:Act} (h1:a.tmps.size=N) (h2:zAm E w) (h3:StR E w st a.tmps):
  (Code.region id ops false).wpIn (Fence.wide.inRound l) n P (fun e a' w'=>e= .normal∧∃st' E',K st'∧Told N E w a.defers E' w' st' a'∧zIu (zIk ops) a a') a w:=by
 have hT:Told N E w a.defers E w st a:=⟨h1,rfl,h2,h3,Step.refl _ _⟩
 refine wpIn_region_list (zUo (Q:=fun e a' w'=>e= .normal∧∃st' E',K st'∧Told N E w a.defers E' w' st' a') (a0:=a) (fun o ho c=> ?_) ?_ ?_ ?_ ops.toList (fun o ho=>by simpa using ho) a w (fun _ _=>rfl) ?_)
 ·obtain ⟨ao,hao⟩:=zKT ht o (by simpa using ho)
  exact zOJ hao c
 ·rintro ⟨a,w,h,_⟩;cases h
 ·rintro ch a w ⟨h,_⟩;cases h
 ·rintro a w ⟨_,st',E',g1,g2⟩ g3;exact ⟨rfl,st',E',g1,g2,g3⟩
 ·exact zG4 (K:=K) (fun E' w' st' a' hT hk=>⟨rfl,st',E',hk,hT⟩) ops.toList (id*100) al ht E w st a hT h
theorem zYr {l n id:Nat} {ops:Array Oper} {al:List zAo} {its:List DIt} {dr:Bool} {st:St} {K:St→Prop} (ht:zAT P N ops (id*100) ops.toList=some al) (hd:zNd P dr ops al=some its) (h:zAV P its st K)
  {E:Env} {w:World} {a:Act} (h1:a.tmps.size=N) (h2:zAm E w) (h3:StR E w st a.tmps):
  (Code.region id ops dr).wpIn (Fence.wide.inRound l) n P (fun e a' w'=>e= .normal∧∃st' E',K st'∧Told N E w a.defers E' w' st' a'∧zIu (zIk ops) a a') a w:=by
 cases dr with
 | true=>exact zYq ht hd h h1 h2 h3
 | false=>
  simp only [zNd,Bool.false_eq_true,if_false,Option.some.injEq] at hd
  subst hd
  exact zZj ht (zWb h) h1 h2 h3
end
def zNh (k:Tg) (ds:List D):PV→PV
 | .ptr u o=>if u=k then .d (.cp ds o) else .ptr u o
 | p=>p
def St.frzB (st:St) (k:Tg) (ds:List D):St:=⟨zIl (zNh k ds) st.tm,delB k (zIq (zNh k ds) st.bx)⟩
theorem zXO {E:Env} {w:World} {ds:List D} {vs:List Value} (h:VRs E w (ds.map .d) vs):DRs E.prot w ds vs:=zX7 h
theorem Sub.frzB (st:St) {k:Tg} {ds:List D} (hk:st.box k=some (ds.map .d)) (huM:(k.isUp||k.isM)=false):Sub st (st.frzB k ds):=by
 intro E w tmps hv hs
 obtain ⟨hu,hM⟩:k.isUp=false∧k.isM=false:=by simpa using huM
 obtain ⟨b,c,el,fr,h1,h2,h3,h4,h5⟩:=hs.bxc (zEd hk) hM
 let E':Env:=⟨E.row,fun u=>if u=k then none else E.box u,fun q=>E.prot q∨q=b⟩
 have hbox:∀u q,E'.box u=some q↔u≠k∧E.box u=some q:=by
  intro u q;simp only [E'];split<;>simp_all
 have hbn:∀q,E.prot q→q≠b:=fun q hq e=>by subst e;exact (hv.box_lt k _ h1).2 hq
 have leaf:∀p v,p.leaf=true→VR E w p v→VR E' w (zNh k ds p) v:=by
  intro p v hl h
  cases p with
  | ptr u o=>
   simp only [zNh]
   simp only [VR] at h
   obtain ⟨b',g1,rfl⟩:=h
   split
   ·rename_i e;subst e
    rw [h1] at g1;cases g1
    simp only [VR,DR]
    rw [zFg hM]
    refine ⟨b,0,c.toList,by simp, .inr rfl,h4,fun i x hx=> ?_,DRs.mono (fun _ h=> .inl h) (fun _ _=>rfl) _ _ (zXO h5)⟩
    simp only [World.cell?,h2,Nat.zero_add]
    simpa using hx
   ·rename_i e
    simp only [VR]
    exact ⟨b',(hbox u b').2 ⟨e,g1⟩,rfl⟩
  | sl u sz off es=>
   simp only [zNh]
   exact VR.calm (zD7.refl w) _ _ ⟨fun _ h=> .inl h,fun _ _ _ _ _ h _=>h,fun t b ht=>by simp [PV.ptrs] at ht⟩ h
  | ep u sz i f e=>
   simp only [zNh]
   exact VR.calm (zD7.refl w) _ _ ⟨fun _ h=> .inl h,fun _ _ _ _ _ h _=>h,fun t b ht=>by simp [PV.ptrs] at ht⟩ h
  | _=>simp [PV.leaf] at hl
 have hown:∀q,Own E' q→Own E q:=by
  rintro q (⟨t,o,h⟩ | ⟨t,h⟩)
  ·exact .inl ⟨t,o,h⟩
  ·exact .inr ⟨t,((hbox t q).1 h).2⟩
 refine ⟨E',⟨fun t q o hr=>⟨(hv.row_lt t q o hr).1, ?_⟩,fun t q hq=>⟨(hv.box_lt t q ((hbox t q).1 hq).2).1, ?_⟩,hv.row_row,fun t u q h1 h2=>hv.box_box t u q ((hbox t q).1 h1).2 ((hbox u q).1 h2).2,
  fun t u q o h1 h2=>hv.row_box t u q o h1 ((hbox u q).1 h2).2, ?_⟩,⟨fun d v hm=> ?_,fun t cs hm=> ?_⟩,⟨rfl,rfl,rfl,Nat.le_refl _,Nat.le_refl _,fun _ _ _=>rfl,fun q h=> .inl (hown q h),fun _ h=> .inl h, ?_,fun t q h=>(hbox _ _).2 ⟨fun e=>by rw [←e] at hu;simp [Tg.isUp] at hu,h⟩⟩⟩
 ·rintro (h | rfl)
  ·exact (hv.row_lt t q o hr).2 h
  ·exact hv.row_box _ _ _ _ hr h1
 ·rintro (h | rfl)
  ·exact (hv.box_lt t q ((hbox t q).1 hq).2).2 h
  ·exact ((hbox t _).1 hq).1 (hv.box_box _ _ _ ((hbox t _).1 hq).2 h1)
 ·rintro q (h | rfl)
  ·exact hv.prot_lt q h
  ·exact (hv.box_lt _ _ h1).1
 ·obtain ⟨u,g1,rfl⟩:=zIA hm
  obtain ⟨x,g2,g3⟩:=hs.tm d u g1
  exact ⟨x,g2,VR.map (E:=E) (w:=w) (E':=E') (w':=w) (fun _ h=> .inl h) (fun _ _=>rfl) leaf u x g3⟩
 ·obtain ⟨hne,hm⟩:=zH3 hm
  obtain ⟨u,g1,rfl⟩:=zIS hm
  obtain ⟨b',o',vs',k1,k2,k3,k5⟩:=hs.bx t u g1
  exact ⟨b',o',vs',(hbox _ _).2 ⟨hne,k1⟩,k2,k3,VRs.map (E:=E) (w:=w) (E':=E') (w':=w) (fun _ h=> .inl h) (fun _ _=>rfl) leaf u _ k5⟩
 ·rintro q (h | rfl)
  ·exact .inl h
  ·exact .inr (.inl (.inr ⟨k,h1⟩))
theorem zZO {β:Type} {P:Program} {N:Nat} {Q:β→Kd→St→Prop} {m:Option β} {ks:List Fr} {kd:Kd} {st:St} (k:Tg) (ds:List D) (st':St) (next:Ok m fun b=>go P N (Q b) ks kd st') (hk:st.box k=some (ds.map .d):=by kernel_rfl) (hu:(k.isUp||k.isM)=false:=by rfl)
  (he:st.frzB k ds=st':=by kernel_rfl) (hc:cl ks kd=true:=by kernel_rfl):Ok m fun b=>go P N (Q b) ks kd st:=
 next.mono fun b hb=>go_sub hc (by rw [he];exact hb) (Sub.frzB st hk hu)
def zC5 (n len:Nat):Nat:=(len+n-1)/n
def zDl {α:Type} (n k:Nat) (l:List α):List α:=(l.drop (k*n)).take n
def zEx {α:Type} (n:Nat) (l:List α):List (List α):=(List.range (zC5 n l.length)).map fun k=>zDl n k l
structure zNr (P:Program) (cf sz:Nat):Prop where
 enters:∀args w,(callFunc cf args).run P w= .ok (.enter cf args) w
 gives:∀(l:Nat) (es:List D) (n:Int) (pr:Nat→Prop) (w:World) (v1 v2:Value) (J:Nat→World→Prop),1≤n→n≤4611686018427387904→es.length≤4611686018427387904→(∀e∈es,e.sz=sz)→
  DR pr w (.cp [.lst es] 0) v1→DR pr w (.cp [.int .i64 n] 0) v2→(∀k W,J k W→J k W.drew)→(∀k W,J k W→∀b,pr b→W.heap[b]? =w.heap[b]?)→
  (∀k W cv,J k W→k<zC5 n.toNat es.length→DR pr w (.lst (zDl n.toNat k es)) cv→YieldAt Fence.wide 0 P l #[cv] W fun e W'=>e= .returned (.bool true)∧J (k+1) W')→
  J 0 w→Calls P cf #[.func (.yield l) #[] #[],v1,v2] w fun e W'=>(∃v,e= .returned v)∧J (zC5 n.toNat es.length) W'
def zX9 (p d:Nat) (its:List DIt):List Nat:=p::d::its.filterMap fun it=>it.o.dst
def zQj (p d:Nat) (its:List DIt) (st:St):Bool:=st.tm.all fun e=> !(zX9 p d its).contains e.1
section
variable {P:Program} {N:Nat}
theorem zT0 {ps:List Tmp} {asg body:Code} {p d:Nat} {its:List DIt} (h:zVc P N ps asg body=some (p,d,its)):
  ∃i1 i2 j o ops al dr,ps=[p]∧asg= .region i1 #[o] false∧o.dst=some d∧o.op= .assign (.tmp p)∧o.guard=none∧body= .block j (.region i2 ops dr)∧zAT P N ops (i2*100) ops.toList=some al∧zNd P dr ops al=some its∧
   p<N∧d<N∧p≠d∧∀t,t∈zIk ops→t∈its.filterMap fun it=>it.o.dst:=by
 unfold zVc at h
 split at h
 ·rename_i p' i1 aops j i2 ops dr
  split at h
  ·rename_i d' q ty pos af as ha hal
   split at h
   ·rename_i hc
    obtain ⟨rfl,h1,h2,h3⟩:=hc
    rw [Option.bind_eq_some_iff] at h
    obtain ⟨its',h4,h5⟩:=h
    split at h5
    ·rename_i hall
     simp only [Option.some.injEq,Prod.mk.injEq] at h5
     obtain ⟨rfl,rfl,rfl⟩:=h5
     refine ⟨i1,i2,j,_,ops,as,dr,rfl,by rw [show aops= #[_] from by apply Array.toList_inj.1;rw [ha]],rfl,rfl,rfl,rfl,hal,h4,h1,h2,h3,fun t ht=> ?_⟩
     obtain ⟨o,ho,hod⟩:=List.mem_filterMap.1 ht
     simp only [List.all_eq_true,List.any_eq_true,decide_eq_true_eq] at hall
     obtain ⟨it,g1,g2⟩:=hall o ho
     exact List.mem_filterMap.2 ⟨it,g1,by rw [g2,hod]⟩
    ·cases h5
   ·cases h
  ·cases h
 ·cases h
theorem zX5 {pr:Nat→Prop} {w w':World} {es:List D} {v:Value} {k n:Nat} (h:DR pr w (.lst (zDl n k es)) v) (hb:∀b,pr b→w'.heap[b]? =w.heap[b]?):DR pr w' (.lst (zDl n k es)) v:=
 DR.mono (fun _ h=>h) hb _ _ h
theorem Step.turnAt {E0 E:Env} {w0 w:World} (h:Step E0 w0 E w) {l:Nat} (hl:w0.heap.size≤l) (o:Obj):Step E0 w0 E (w.putObj l o):=
 h.turn rfl rfl rfl (by simp) (Nat.le_refl _) fun b hb=>World.putObj_heap_other (by omega)
theorem zMp {w:World} {l:Nat} {o o':Obj} (h:w.heap[l]? =some o) (ho:∀c el fr,o≠ .cells c el fr) (ho2:∀es ck,o≠ .map es ck):zD7 w (w.putObj l o'):=
 ⟨by simp,fun b c el fr hb=>by
  by_cases e:b=l
  ·subst e;rw [h] at hb;cases hb;exact absurd rfl (ho _ _ _)
  ·rw [World.putObj_heap_other e];exact hb,fun b es ck hb=>by
  by_cases e:b=l
  ·subst e;rw [h] at hb;cases hb;exact absurd rfl (ho2 _ _)
  ·rw [World.putObj_heap_other e];exact hb⟩
theorem zYZ {g:Opd} {p d cf sz:Nat} {its:List DIt} {st:St} {R:Kd→St→Prop} {es:List D} {n:Int} (hc:zNr P cf sz) (hv:st.val g=some (.d (.clo (.func cf) [] [.cp [.lst es] 0, .cp [.int .i64 n] 0])))
  (hn1:1≤n) (hn2:n≤4611686018427387904) (hl:es.length≤4611686018427387904) (hsz:∀e∈es,e.sz=sz) (S:Nat→St) (h0:Sub st (S 0)) (hok:∀k,zQj p d its (S k)=true)
  (hbody:∀k,k<zC5 n.toNat es.length→zAV P its (((S k).put p (.d (.lst (zDl n.toNat k es)))).put d (.d (.lst (zDl n.toNat k es)))) fun s=>Sub s (S (k+1)))
  (hend:R .norm (S (zC5 n.toNat es.length))):EvC P N (.rng g p d its) st R:=by
 intro c hct
 cases c<;>simp only [tr] at hct
 case rangeFunc f ps asg body=>
  split at hct
  ·rename_i g' p' d' its' hg' ht
   simp only [Option.some.injEq,AC.rng.injEq] at hct
   obtain ⟨rfl,rfl,rfl,rfl⟩:=hct
   obtain ⟨i1,i2,j,oa,ops,al,dr,hps,rfl,ho1,ho2,ho3,rfl,hal,hdr,hpN,hdN,hpd,hsub⟩:=zT0 ht
   intro E w a h1 h2 h3
   have hval:=zMD hg' h3 hv
   simp only [VR] at hval
   rw [DR] at hval
   obtain ⟨fa,fb,hfv,hfa,hfb⟩:=hval
   simp only [DRs] at hfa hfb
   obtain ⟨v1,us,hfb1,hd1,v2,us2,hfb2,hd2,hus⟩:=hfb
   have efa:fa= #[]:=by simpa using hfa
   have efb:fb= #[v1,v2]:=by apply Array.toList_inj.1;rw [hfb1,hfb2,hus]
   subst efa;subst efb
   refine (wpIn_wide (n:=0)).1 (wpIn_rangeFunc ?_)
   intro fn _
   obtain ⟨rec,hrec⟩:∃rec:LoopState→Loop,rec=fun s=>{ state:=s,pending:=none,fn,tmps:=a.tmps,params:=ps,assign:= .region i1 #[oa] false,body:= .block j (.region i2 ops dr),defers:=w.heap.size }:=⟨_,rfl⟩
   obtain ⟨W1,hW1⟩:∃W1,(w.alloc (.deferred (some []))).alloc (.loop (rec .ready))=W1:=⟨_,rfl⟩
   have hsz1:W1.heap.size=w.heap.size+2:=by rw [←hW1];simp
   have hL1:W1.heap[w.heap.size+1]? =some (.loop (rec .ready)):=by
    rw [←hW1];have:=World.alloc_heap_new (w.alloc (.deferred (some []))) (.loop (rec .ready));rwa [World.size_alloc] at this
   have hK1:W1.heap[w.heap.size]? =some (.deferred (some [])):=by
    rw [←hW1];exact (Below.heap_alloc _ _ _ (by simp)).trans (World.alloc_heap_new w _)
   have hold:∀b,b<w.heap.size→W1.heap[b]? =w.heap[b]? :=fun b hb=>by
    rw [←hW1];exact (Below.heap_alloc _ _ _ (by simp;omega)).trans (Below.heap_alloc _ _ _ hb)
   have hst1:Step E w E W1:=⟨by rw [←hW1];rfl,by rw [←hW1];rfl,by rw [←hW1];rfl,by omega,by rw [←hW1];exact Nat.le_refl _,fun b hb _=>hold b hb,fun _ h=> .inl h,fun _ h=>h,fun _ h=> .inl h,fun _ _ h=>h⟩
   have hv1:zAm E W1:=h2.grow (by omega)
   have hs1:StR E W1 st a.tmps:=h3.grow h2 hold
   refine ⟨w.heap.size+1,[mark w.heap.size],W1,{ target:= .fn (.func cf) #[v1,v2],args:= #[.func (.yield (w.heap.size+1)) #[] #[]] },W1,cf,#[.func (.yield (w.heap.size+1)) #[] #[],v1,v2],W1, ?_, ?_, ?_, ?_,fun h=>by simp [Fence.wide] at h, ?_⟩
   ·rw [←hW1,hrec];exact run_enterLoop_outer _ _ _ _ _
   ·simp only [resolve,hfv]
    simp [go_sem]
   ·intro f' hf';trivial
   ·simp [invoke,go_sem,hc.enters]
   obtain ⟨J,hJ⟩:∃J:Nat→World→Prop,J=fun k W=>W.heap[w.heap.size+1]? =some (.loop (rec .ready))∧W.heap[w.heap.size]? =some (.deferred (some []))∧
     ∃E',zAm E' W∧StR E' W (S k) a.tmps∧Step E w E' W∧¬Own E' (w.heap.size+1)∧¬Own E' w.heap.size:=⟨_,rfl⟩
   have hJ0:J 0 W1:=by
    rw [hJ]
    obtain ⟨E',g1,g2,g3⟩:=h0 E W1 a.tmps hv1 hs1
    have hno:∀b,w.heap.size≤b→b<W1.heap.size→¬Own E' b:=fun b hb hb' ho=>(g3.own b ho).elim (fun h=>by have:=(h2.own_lt h).1;omega) (fun h=>by omega)
    exact ⟨hL1,hK1,E',g1,g2,hst1.trans g3,hno _ (by omega) (by omega),hno _ (by omega) (by omega)⟩
   have hpr:∀k W,J k W→∀b,E.prot b→W.heap[b]? =W1.heap[b]? :=by
    rw [hJ];rintro k W ⟨_,_,E',_,_,g,_⟩ b hb
    rw [g.stays h2 b hb,hold b (h2.prot_lt b hb)]
   have hps':ps= #[p']:=by apply Array.toList_inj.1;rw [hps]
   have hgive:=hc.gives (w.heap.size+1) es n E.prot W1 v1 v2 J hn1 hn2 hl hsz (DR.mono (fun _ h=>h) (fun b hb=>hold b (h2.prot_lt b hb)) _ _ hd1) (DR.mono (fun _ h=>h) (fun b hb=>hold b (h2.prot_lt b hb)) _ _ hd2) ?hdrew hpr ?hround hJ0
   case hdrew=>
    rw [hJ];rintro k W ⟨g1,g2,E',g3,g4,g5,g6,g7⟩
    refine ⟨g1,g2,E',⟨g3.row_lt,g3.box_lt,g3.row_row,g3.box_box,g3.row_box,g3.prot_lt⟩,g4.keep (fun _ h=>h) (fun _ _=>rfl) (fun _ _ h=>⟨h,rfl⟩) (fun _ _ h=>⟨h,rfl⟩), ?_,g6,g7⟩
    exact g5.turn rfl rfl rfl (Nat.le_refl _) (by first | exact Nat.le_refl _ | exact Nat.le_succ _) fun b _=>rfl
   case hround=>
    intro k W cv hj hk hcv
    have hcvW:DR E.prot W (.lst (zDl n.toNat k es)) cv:=zX5 hcv (hpr k W hj)
    rw [hJ] at hj
    obtain ⟨gl,gk,E',g3,g4,g5,g6,g7⟩:=hj
    have hy:=run_yield (P:=P) (args:= #[cv]) gl (by rw [hrec,hps'];simp)
    rw [hrec] at hy
    refine ⟨_,_,_,_,hy,roundIn_of_wpIn trivial ?_⟩
    clear hy
    have etm:(ps.zip #[cv]).foldl (fun (tmps:Array Value) (x:Nat×Value)=>tmps.setIfInBounds x.1 x.2) a.tmps=a.tmps.setIfInBounds p' cv:=by rw [hps'];simp
    simp only [etm]
    have hvc:VR E' W (.d (.lst (zDl n.toNat k es))) cv:=by simp only [VR];exact DR.mono g5.prot (fun _ _=>rfl) _ _ hcvW
    have hp1:p'<a.tmps.size:=by rw [h1];exact hpN
    obtain ⟨a1,ha1⟩:∃a1:Act,a1=({ tmps:=a.tmps.setIfInBounds p' cv,defers:=[] }:Act).put (some d') cv:=⟨_,rfl⟩
    have hs2:StR E' W (((S k).put p' (.d (.lst (zDl n.toNat k es)))).put d' (.d (.lst (zDl n.toNat k es)))) a1.tmps:=by
     rw [ha1]
     simp only [Act.put]
     exact (g4.put hp1 hvc).put (by simp;rw [h1];exact hdN) hvc
    have hsz2:a1.tmps.size=N:=by rw [ha1];simp [Act.put,h1]
    refine wpIn_region_list ?_
    obtain ⟨odst,oop,oty,opos,oaf,og⟩:=oa
    simp only at ho1 ho2 ho3
    subst ho1;subst ho2;subst ho3
    have hw0:∀y,Region.wanted (⟨some d', .assign (.tmp p'),oty,opos,oaf,none⟩:Oper) y=true:=fun y=>by simp [Region.wanted]
    simp only [List.toList_toArray,wpListIn,hw0,if_true]
    refine ⟨fun _ _=>trivial, ?_⟩
    rw [show (Fence.wide.inRound (w.heap.size+1)).round=some (w.heap.size+1) from rfl,Oper.semAt_some _ _ _ (by intro c h;cases h)]
    have hev:({ tmps:=a.tmps.setIfInBounds p' cv,defers:=[] }:Act).eval (.tmp p')=cv:=by
     simp [Act.eval,hp1]
    simp only [execOp,Sem.run_pure,Oper.uponIn,hev,Exit.then]
    rw [←ha1]
    refine ⟨_,run_beginRound gl (by rw [hrec]), ?_⟩
    obtain ⟨W2,hW2⟩:∃W2,W.putObj (w.heap.size+1) (.loop { rec .ready with state:= .busy })=W2:=⟨_,rfl⟩
    rw [hW2]
    have hlt:w.heap.size+1<W.heap.size:=(Array.getElem?_eq_some_iff.1 gl).1
    have hq2:zD7 W W2:=by rw [←hW2];exact zMp gl (by intro c el fr h;cases h) (by intro es ck h;cases h)
    have hl2:W2.heap[w.heap.size+1]? =some (.loop { rec .ready with state:= .busy }):=by rw [←hW2];exact World.putObj_heap_same hlt
    have hk2:W2.heap[w.heap.size]? =some (.deferred (some [])):=by rw [←hW2];exact (World.putObj_heap_other (by omega)).trans gk
    have hst2:Step E w E' W2:=by rw [←hW2];exact g5.turnAt (by omega) _
    have hsz3:W2.heap.size=W.heap.size:=by rw [←hW2];simp
    refine wpIn_block (wpIn_mono (zYr hal hdr (hbody k hk) hsz2 (g3.calm hq2) (hs2.calm hq2)) ?_)
    rintro e a3 W3 ⟨rfl,st3,E3,hsub3,hT,hal3⟩
    obtain ⟨E4,hT4⟩:=hT.sub hsub3
    have hl3:W3.heap[w.heap.size+1]? =some (.loop { rec .ready with state:= .busy }):=(hT4.step.frame _ (by omega) g6).trans hl2
    have hk3:W3.heap[w.heap.size]? =some (.deferred (some [])):=(hT4.step.frame _ (by omega) g7).trans hk2
    have hend3:=run_endRound (P:=P) none hl3
    simp only [Exit.inBlock,roundPost]
    refine ⟨_,_,hend3,rfl, ?_⟩
    rw [hJ]
    have hlt3:w.heap.size+1<W3.heap.size:=(Array.getElem?_eq_some_iff.1 hl3).1
    have hq3:∀o',zD7 W3 (W3.putObj (w.heap.size+1) o'):=fun o'=>zMp hl3 (by intro c el fr h;cases h) (by intro es ck h;cases h)
    refine ⟨?_,(World.putObj_heap_other (by omega)).trans hk3,E4,hT4.valid.calm (hq3 _), ?_,(hst2.trans hT4.step).turnAt (by omega) _, ?_, ?_⟩
    ·rw [World.putObj_heap_same hlt3,hrec];rfl
    ·refine StR.calm ⟨fun t q hm=> ?_,hT4.str.bx⟩ (hq3 _)
     obtain ⟨u,hu1,hu2⟩:=hT4.str.tm t q hm
     refine ⟨u, ?_,hu2⟩
     have hto:=List.all_eq_true.1 (hok (k+1)) _ hm
     simp only [zX9,Bool.not_eq_true',List.contains_eq_mem,decide_eq_false_iff_not,List.mem_cons,not_or] at hto
     obtain ⟨t1,t2,t3⟩:=hto
     rw [hal3 t (fun h=>t3 (hsub t h)),ha1] at hu1
     simp only [Act.put] at hu1
     rw [Array.getElem?_setIfInBounds_ne (fun e=>t2 e.symm),Array.getElem?_setIfInBounds_ne (fun e=>t1 e.symm)] at hu1
     exact hu1
    ·exact fun ho=>(hT4.step.own _ ho).elim g6 (fun h=>by omega)
    ·exact fun ho=>(hT4.step.own _ ho).elim g7 (fun h=>by omega)
   refine (callsIn_wide.2 hgive).mono ?_
   rintro e W2 ⟨⟨v,rfl⟩,hj⟩
   rw [hJ] at hj
   obtain ⟨gl,gk,E',g3,g4,g5,g6,g7⟩:=hj
   have hlt:w.heap.size+1<W2.heap.size:=(Array.getElem?_eq_some_iff.1 gl).1
   have hend2:=run_endLoop (P:=P) gl (by rw [hrec];simp)
   have hq2:∀o',zD7 W2 (W2.putObj (w.heap.size+1) o'):=fun o'=>zMp gl (by intro c el fr h;cases h) (by intro es ck h;cases h)
   refine ⟨_,_,hend2, ?_⟩
   rw [show (rec .ready).pending=none by rw [hrec]]
   refine ⟨.norm,S (zC5 n.toNat es.length),E',rfl,hend, ?_⟩
   refine ⟨h1,⟨[w.heap.size],rfl,by simp,fun D hD=> ?_⟩,g3.calm (hq2 _),g4.calm (hq2 _),g5.turnAt (by omega) _⟩
   simp only [List.mem_singleton] at hD;subst hD
   exact ⟨Nat.le_refl _,(World.putObj_heap_other (by omega)).trans gk,g7⟩
  ·cases hct
 all_goals (repeat' split at hct)<;>first | (rcases zA6 hct with ⟨_,h,_⟩ | ⟨_,h,_⟩<;>cases h;done) | (simp only [Option.map_eq_some_iff] at hct;obtain ⟨_,_,hct⟩:=hct;cases hct;done) | (cases hct;done) | (obtain ⟨_,_,hct⟩:=hct;cases hct;done)
variable {β γ α:Type} {R:β→Kd→St→Prop} {ks:List Fr} {st:St}
theorem zTU {f:γ→List α→Option γ} {x0 xN:γ} {l:List (List α)} (h:l.foldlM f x0=some xN) (k:Nat):∃x,(l.take k).foldlM f x0=some x:=by
 have:(l.take k++l.drop k).foldlM f x0=some xN:=by rw [List.take_append_drop];exact h
 rw [List.foldlM_append] at this
 obtain ⟨x,h1,_⟩:=Option.bind_eq_some_iff.1 this
 exact ⟨x,h1⟩
theorem zTs:∀{gs:List (List zAo×List zAo)} {st:St} {K K':St→Prop},vcG P gs st K→(∀s,K s→K' s)→vcG P gs st K'
 | [],st,K,K',h,hk=>hk _ h
 | (os,S)::gs,st,K,K',h,hk=>by
  simp only [vcG] at h⊢
  exact zFo h fun s hs=>⟨hs.1,zTs hs.2 hk⟩
theorem zVl {enc:α→D} {l:List α} {n k:Nat}:zDl n k (l.map enc)=(zDl n k l).map enc:=by simp [zDl]
theorem zZX {kk:γ→Option β} {g:Opd} {p d cf sz:Nat} {its:List DIt} {gs:List (List zAo×List zAo)} {enc:α→D} {l:List α} {n:Int} (S':γ→St) (x0:γ) (f:γ→List α→Option γ) (hc:zNr P cf sz)
  (hv:st.val g=some (.d (.clo (.func cf) [] [.cp [.lst (l.map enc)] 0, .cp [.int .i64 n] 0]))) (hs:∀y,(enc y).sz=sz) (hok:∀x,zQj p d its (S' x)=true)
  (hbody:∀x c,Ok (f x c) fun x'=>go P N (zGw .norm S' x') (grpF gs []) .norm (((S' x).put p (.d (.lst (c.map enc)))).put d (.d (.lst (c.map enc)))))
  (next:∀x,Ok (kk x) fun b=>go P N (R b) ks .norm (S' x)) (hgr:grpD its=some gs:=by kernel_rfl) (hfit:fit st (S' x0)=some (S' x0):=by kernel_rfl):
  Ok ((if 1≤n∧n≤4611686018427387904∧l.length≤4611686018427387904 then (zEx n.toNat l).foldlM f x0 else none)>>=kk) fun b=>go P N (R b) (.c (.rng g p d its)::ks) .norm st:=by
 intro b hb
 obtain ⟨xN,hx,hk⟩:=Option.bind_eq_some_iff.1 hb
 split at hx
 ·rename_i hcnd
  have hlen:(zEx n.toNat l).length=zC5 n.toNat l.length:=by simp [zEx]
  have hX:∀k,∃x,((zEx n.toNat l).take k).foldlM f x0=some x:=fun k=>zTU hx k
  obtain ⟨X,hX⟩:∃X:Nat→γ,∀k,((zEx n.toNat l).take k).foldlM f x0=some (X k):=⟨fun k=>Classical.choose (hX k),fun k=>Classical.choose_spec (hX k)⟩
  have hX0:X 0=x0:=by have:=hX 0;simpa using this.symm
  have hXN:X (zC5 n.toNat l.length)=xN:=by
   have:=hX (zC5 n.toNat l.length)
   rw [←hlen,List.take_length,hx] at this
   rw [hlen] at this
   exact (Option.some.inj this).symm
  have hXs:∀k,k<zC5 n.toNat l.length→f (X k) (zDl n.toNat k l)=some (X (k+1)):=by
   intro k hk
   have h1:=hX (k+1)
   have hg:(zEx n.toNat l)[k]? =some (zDl n.toNat k l):=by
    simp only [zEx,List.getElem?_map,Option.map_eq_some_iff]
    exact ⟨k,by simp [hk],rfl⟩
   rw [List.take_add_one,hg,List.foldlM_append,hX k] at h1
   simpa using h1
  refine zYZ (sz:=sz) hc hv hcnd.1 hcnd.2.1 (by simpa using hcnd.2.2) ?_ (fun k=>S' (X k)) (by rw [hX0];exact zE7 hfit) (fun k=>hok _) ?_ ?_
  ·intro e he;obtain ⟨y,_,rfl⟩:=List.mem_map.1 he;exact hs y
  ·intro k hk
   rw [List.length_map] at hk
   have h1:=hbody (X k) (zDl n.toNat k l) (X (k+1)) (hXs k hk)
   rw [zVl]
   refine zHp hgr (zTs (go_grpF h1) ?_)
   rintro s ⟨s2,h2,_,h3⟩
   exact h2.trans h3
  ·simp only [List.length_map,hXN]
   exact next xN b hk
 ·cases hx
end
end Go.Proofs.YtnmlihfpenjeiaaGreat.Abs
