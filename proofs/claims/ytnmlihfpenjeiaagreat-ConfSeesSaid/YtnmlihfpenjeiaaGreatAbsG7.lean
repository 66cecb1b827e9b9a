/- Walks as trees: code and a model side by side, held by the kernel at once. Conditions: none. -/
import Derived.Test.YtnmlihfpenjeiaaGreatAbs5
namespace Go.Proofs.YtnmlihfpenjeiaaGreat.Abs
open Go Go.RowKit
set_option linter.unusedVariables false
set_option linter.unusedSimpArgs false
inductive CT:Type 1 where
 | tt
 | no
 | eq {α:Type} (a b:α) (r:CT)
 | all {α:Type} (f:α→CT)
 | and (a b:CT)
def CT.ok:CT→CT
 | .tt=> .tt
 | .no=> .tt
 | .eq a _ r=> .eq a a r.ok
 | .all f=> .all fun v=>(f v).ok
 | .and a b=> .and a.ok b.ok
def CT.good:CT→Prop
 | .tt=>True
 | .no=>False
 | .eq a b r=>a=b∧r.good
 | .all f=>∀v,(f v).good
 | .and a b=>a.good∧b.good
theorem CT.sound:∀{c:CT},c=c.ok→c.good
 | .tt,_=>trivial
 | .no,h=>by cases h
 | .eq a b r,h=>by
  simp only [CT.ok,CT.eq.injEq,heq_eq_eq,true_and] at h
  exact ⟨h.1.symm,CT.sound h.2⟩
 | .all f,h=>by
  simp only [CT.ok,CT.all.injEq,heq_eq_eq,true_and] at h
  exact fun v=>CT.sound (congrFun h v)
 | .and a b,h=>by
  simp only [CT.ok,CT.and.injEq] at h
  exact ⟨CT.sound h.1,CT.sound h.2⟩
structure Fe where
 P:Program
 N:Nat
 res:List RV
 ρ:Type
 en:ρ→PV
 bx:ρ→List (Tg×List PV)
def fnN (P:Program) (f:Nat):Nat:=match fnA P f with
 | some x=>x.1
 | none=>0
def fnR (P:Program) (f:Nat):List RV:=match fnA P f with
 | some x=>x.2.1
 | none=>[]
abbrev Fe.of (P:Program) (f:Nat) {ρ:Type} (en:ρ→PV) (bx:ρ→List (Tg×List PV):=fun _=>[]):Fe:=⟨P,fnN P f,fnR P f,ρ,en,bx⟩
structure Enc (α:Type) where
 f:α→D
 sz:Nat
 ok:∀y,(f y).sz=sz
structure Sg (P:Program) (γ:Type) where
 f:Nat
 mc:Option γ
 ds:List D
 en:γ→PV
def Sg.Holds {P:Program} {γ:Type} (s:Sg P γ):Prop:=∀v,s.mc=some v→EvF P s.f s.ds (s.en v)
structure SgG (P:Program) (γ:Type) where
 f:Nat
 mc:Option γ
 ps:List PV
 bx:List (Tg×List PV)
 en:γ→PV
 bx':γ→List (Tg×List PV)
def SgG.Holds {P:Program} {γ:Type} (s:SgG P γ):Prop:=∀v,s.mc=some v→EvG P s.f s.ps s.bx (s.en v) (s.bx' v)
structure SgI (P:Program) (γ α:Type) where
 f:Nat
 mc:Option γ
 e:Enc α
 l:List α
 xs:List D
 l':γ→List α
 k:γ→Option Nat
def SgI.Holds {P:Program} {γ α:Type} (s:SgI P γ α):Prop:=∀v,s.mc=some v→EvI P s.f s.e.sz (s.l.map s.e.f) s.xs ((s.l' v).map s.e.f) (s.k v)
def resV {α:Type} (k:Option Nat) (t:Tg) (off:Nat) (e:Enc α) (l:List α):PV:=match k with
 | none=> .tup []
 | some j=> .sl t e.sz off ((l.take j).map e.f)
theorem zYM {α:Type} {k:Option Nat} {t:Tg} {off:Nat} {e:Enc α} {l:List α}:resI k t e.sz off (l.map e.f)=resV k t off e l:=by
 cases k with
 | none=>rfl
 | some j=>simp only [resI,resV,List.map_take]
theorem zXV {es es':List D} (h:es'.length=es.length):cpyE es' es'.length es=es':=by
 simp only [cpyE,h,Nat.min_self]
 rw [List.take_of_length_le (by omega),List.drop_of_length_le (by omega),List.append_nil]
structure Lp (F:Fe) (γ:Type) where
 mj:Option γ
 c:AC
 k1:Kd
 S0:St
 S':γ→St
 ok:Ok mj fun v=>go F.P F.N (zGw k1 S' v) [.l c] .norm S0
structure LpR (F:Fe) (γ:Type) where
 mj:Option (Sum F.ρ γ)
 c:AC
 k1:Kd
 S0:St
 S':γ→St
 ok:Ok mj fun v=>go F.P F.N (zHZ (fun r=>Fnl F.res (F.en r) (F.bx r)) k1 S' v) [.l c] .norm S0
inductive Ht:Type 1 where
 | c
 | len {α:Type} (enc:α→D) (l:List α)
 | idx {α:Type} [Inhabited α] (e:Enc α) (l:List α) (iv:Int) (j:Nat)
 | cut {α:Type} (e:Enc α) (l:List α) (a b:Option Int) (j:Nat)
 | rd (c:Prop) (v:PV) (j:Nat)
structure Js (γ:Type) where
 tm:γ→List (Nat×PV)
 kt:List Nat
 bx:γ→List (Tg×List PV)
 kb:List Tg
def zVi (ks:List Nat):List (Nat×PV)→List (Nat×PV)
 | []=>[]
 | (d,v)::r=>bif ks.elem d then (d,v)::zVi ks r else zVi ks r
def memT (k:Tg):List Tg→Bool
 | []=>false
 | t::r=>bif decide (k=t) then true else memT k r
def zVy (ks:List Tg):List (Tg×List PV)→List (Tg×List PV)
 | []=>[]
 | (k,v)::r=>bif memT k ks then (k,v)::zVy ks r else zVy ks r
def Js.st {γ:Type} (j:Js γ) (st:St) (v:γ):St:=⟨j.tm v++zVi j.kt st.tm,j.bx v++zVy j.kb st.bx⟩
inductive Tr (F:Fe):Type→Type→Type 1 where
 | ret {X τ:Type} (n:Nat) (v:τ):Tr F X τ
 | again {X τ:Type} (n:Nat) (x:X):Tr F X τ
 | halt {X τ:Type}:Tr F X τ
 | let_ {X τ α:Type} (e:α) (k:α→Tr F X τ):Tr F X τ
 | fitT {X τ:Type} (n:Nat) (st:St) (k:Tr F X τ):Tr F X τ
 | ite {X τ:Type} (n t:Nat) (p:Prop) [Decidable p] (a b:Tr F X τ):Tr F X τ
 | iteN {X τ:Type} (n t:Nat) (p:Prop) [Decidable p] (a b:Tr F X τ):Tr F X τ
 | iteP {X τ:Type} (n t:Nat) {z:Bool} {p:Prop} [Decidable p] (h:z=decide p) (a b:Tr F X τ):Tr F X τ
 | iteB {X τ:Type} (n t:Nat) (p:Bool) (a b:Tr F X τ):Tr F X τ
 | cas {X τ:Type} (n t:Nat) (p:Prop) [Decidable p] (x y z:PV) (hx:p→z=x) (hy:¬p→z=y) (a b:Tr F X τ):Tr F X τ
 | iteX {X τ:Type} (n t:Nat) (p:Bool) (a b:Tr F X τ):Tr F X τ
 | len {X τ α:Type} (n:Nat) (e:Enc α) (l:List α) (k:Tr F X τ):Tr F X τ
 | idx {X τ α:Type} [Inhabited α] (n:Nat) (e:Enc α) (l:List α) (iv:Int) (k:Tr F X τ):Tr F X τ
 | cut {X τ α:Type} (n:Nat) (e:Enc α) (l:List α) (a b:Option Int) (k:Tr F X τ):Tr F X τ
 | app {X τ α:Type} (n:Nat) (e:Enc α) (B:Nat) (l l2:List α) (k:Tr F X τ):Tr F X τ
 | appN {X τ α:Type} (n:Nat) (e:Enc α) (B:Nat) (l2:List α) (k:Tr F X τ):Tr F X τ
 | mk {X τ α:Type} (n:Nat) (e:Enc α) (B:Nat) (z:α) (a b:Int) (k:Tr F X τ):Tr F X τ
 | appZ {X τ α:Type} (n:Nat) (e:Enc α) (B:Nat) (z:α) (a:Int) (k:Tr F X τ):Tr F X τ
 | sto {X τ α:Type} (n:Nat) (vs:List Nat) (e:Enc α) (l:List α) (iv:Int) (v:α) (k:Tr F X τ):Tr F X τ
 | cpy {X τ α:Type} (n:Nat) (vs:List Nat) (e:Enc α) (l l2:List α) (k:Tr F X τ):Tr F X τ
 | rd {X τ:Type} (n:Nat) (c:Prop) [Decidable c] (v:PV) (k:Tr F X τ):Tr F X τ
 | convS {X τ:Type} (n:Nat) (l:List Int) (k:Tr F X τ):Tr F X τ
 | ldA {X τ:Type} (n:Nat) (kk:IntKind) (l:List Int) (iv:Int) (j:Nat) (k:Tr F X τ):Tr F X τ
 | nilq {X τ α:Type} (n:Nat) (enc:α→D) (l:List α) (m1 m2:Option τ) (h:l.length=0→m1=m2) (a b:Tr F X τ):Tr F X τ
 | call {X τ γ:Type} (n:Nat) {s:Sg F.P γ} (h:s.Holds) (nl:∀v,(s.en v).noLst) (k:γ→Tr F X τ):Tr F X τ
 | callS2 {X τ α β:Type} (n:Nat) {s:Sg F.P (Sum α β)} (h:s.Holds) (nl:∀v,(s.en v).noLst) (k1:α→Tr F X τ) (k2:β→Tr F X τ):Tr F X τ
 | callS3 {X τ α β γ:Type} (n:Nat) {s:Sg F.P (Sum α (Sum β γ))} (h:s.Holds) (nl:∀v,(s.en v).noLst) (k1:α→Tr F X τ) (k2:β→Tr F X τ) (k3:γ→Tr F X τ):Tr F X τ
 | callS4 {X τ α β γ δ:Type} (n:Nat) {s:Sg F.P (Sum α (Sum β (Sum γ δ)))} (h:s.Holds) (nl:∀v,(s.en v).noLst) (k1:α→Tr F X τ) (k2:β→Tr F X τ) (k3:γ→Tr F X τ) (k4:δ→Tr F X τ):Tr F X τ
 | callZ {X τ γ:Type} (n:Nat) {s:Sg F.P γ} (h:s.Holds) (k:γ→Tr F X τ):Tr F X τ
 | callB {X τ γ:Type} (n:Nat) (ρ:List (Tg×Tg)) {s:SgG F.P γ} (h:s.Holds) (nl:∀v,(s.en v).noLst) (nlB:∀v,zF7 (s.bx' v)) (k:γ→Tr F X τ):Tr F X τ
 | srt {X τ γ α:Type} (n:Nat) (vs:List Nat) {s:SgI F.P γ α} (h:s.Holds) (k:γ→Tr F X τ):Tr F X τ
 | callG {X τ γ:Type} (n:Nat) (ρ:List (Tg×Tg)) (Z:List Tg) {s:SgG F.P γ} (h:s.Holds) (k:γ→Tr F X τ):Tr F X τ
 | look {X τ:Type} (n:Nat) (k:Tr F X τ):Tr F X τ
 | lk {X τ:Type} (iv c:Int) (a b:Tr F X τ):Tr F X τ
 | lk0 {X τ:Type} (k:Tr F X τ):Tr F X τ
 | join {X τ γ:Type} (n j:Nat) (S:Js γ) (i:Tr F Empty γ) (k:γ→Tr F X τ):Tr F X τ
 | joinR {X τ γ:Type} (n j:Nat) (S:Js γ) (up:F.ρ→τ) (i:Tr F Empty (Sum F.ρ γ)) (k:γ→Tr F X τ):Tr F X τ
 | loop {X τ γ:Type} (n:Nat) (L:Lp F γ) (k:γ→Tr F X τ):Tr F X τ
 | loopR {X τ γ:Type} (n:Nat) (up:F.ρ→τ) (L:LpR F γ) (k:γ→Tr F X τ):Tr F X τ
 | rng {X τ γ α:Type} (n:Nat) {cf:Nat} (e:Enc α) (l:List α) (m:Int) (hc:zNr F.P cf e.sz) (S:Js γ) (x0:γ) (i:γ→List α→Tr F Empty γ) (k:γ→Tr F X τ):Tr F X τ
 | hold {X τ:Type} (n:Nat) (hs:List Ht) (k:Tr F X τ):Tr F X τ
 | box {X τ:Type} (n:Nat) (t:Tg) (ds:List D) (k:Tr F X τ):Tr F X τ
 | draws {X τ:Type} (n:Nat) (a b:Tr F X τ):Tr F X τ
 | drawsL {X τ:Type} (n:Nat) (k:Tr F X τ):Tr F X τ
 | alt {X τ:Type} (m1 m2:Option τ) (h:m2=m1) (a b:Tr F X τ):Tr F X τ
 | altE {X τ:Type} (m1:Option τ):Tr F X τ
 | drawsM {X τ:Type} (n:Nat) (m1 m2:Option τ) (h:m2=m1) (a b:Tr F X τ):Tr F X τ
 | draws3 {X τ:Type} (n:Nat) (a b c:Tr F X τ):Tr F X τ
section
variable {F:Fe}
def Tr.den:{X τ:Type}→Tr F X τ→(X→Option τ)→Option τ
 | _,_, .ret _ v,_=>some v
 | _,_, .again _ x,f=>f x
 | _,_, .halt,_=>none
 | _,_, .let_ e k,f=>some e>>=fun y=>(k y).den f
 | _,_, .fitT _ _ k,f=>k.den f
 | _,_, @Tr.ite _ _ _ _ _ p _ a b,f=>if p then a.den f else b.den f
 | _,_, @Tr.iteN _ _ _ _ _ p _ a b,f=>if ¬p then a.den f else b.den f
 | _,_, @Tr.iteP _ _ _ _ _ _ p _ _ a b,f=>if p then a.den f else b.den f
 | _,_, @Tr.cas _ _ _ _ _ p _ _ _ _ _ _ a b,f=>if p then a.den f else b.den f
 | _,_, .iteB _ _ p a b,f=>if p=true then a.den f else b.den f
 | _,_, .iteX _ _ p a b,f=>if p=false then a.den f else b.den f
 | _,_, .len _ _ _ k,f=>k.den f
 | _,_, @Tr.idx _ _ _ _ _ _ _ l iv k,f=>if 0≤iv∧iv<(l.length:Int) then k.den f else none
 | _,_, .cut _ _ l a b k,f=>if cutOk a b l.length then k.den f else none
 | _,_, .app _ _ B l l2 k,f=>if room B (l++l2).length then k.den f else none
 | _,_, .appN _ _ B l2 k,f=>if room B l2.length then k.den f else none
 | _,_, .mk _ _ B _ a b k,f=>if 0≤a∧a≤b∧b≤140737488355328∧b*(B:Int)≤140737488355328 then k.den f else none
 | _,_, .appZ _ _ B _ a k,f=>if 0≤a∧a≤140737488355328∧a*(B:Int)≤140737488355328 then k.den f else none
 | _,_, .sto _ _ _ _ _ _ k,f=>k.den f
 | _,_, .cpy _ _ _ _ _ k,f=>k.den f
 | _,_, @Tr.rd _ _ _ _ c _ _ k,f=>if c then k.den f else none
 | _,_, .convS _ _ k,f=>k.den f
 | _,_, .ldA _ _ _ _ _ k,f=>k.den f
 | _,_, .nilq _ _ _ m1 _ _ _ _,_=>m1
 | _,_, .call (s:=s) _ _ _ k,f=>s.mc>>=fun v=>(k v).den f
 | _,_, .callS2 (s:=s) _ _ _ k1 k2,f=>s.mc>>=fun e=>match e with
  | .inl v=>(k1 v).den f
  | .inr v=>(k2 v).den f
 | _,_, .callS3 (s:=s) _ _ _ k1 k2 k3,f=>s.mc>>=fun e=>match e with
  | .inl v=>(k1 v).den f
  | .inr (.inl v)=>(k2 v).den f
  | .inr (.inr v)=>(k3 v).den f
 | _,_, .callS4 (s:=s) _ _ _ k1 k2 k3 k4,f=>s.mc>>=fun e=>match e with
  | .inl v=>(k1 v).den f
  | .inr (.inl v)=>(k2 v).den f
  | .inr (.inr (.inl v))=>(k3 v).den f
  | .inr (.inr (.inr v))=>(k4 v).den f
 | _,_, .callZ (s:=s) _ _ k,f=>s.mc>>=fun v=>(k v).den f
 | _,_, .callB (s:=s) _ _ _ _ _ k,f=>s.mc>>=fun v=>(k v).den f
 | _,_, .srt (s:=s) _ _ _ k,f=>s.mc>>=fun v=>(k v).den f
 | _,_, .callG (s:=s) _ _ _ _ k,f=>s.mc>>=fun v=>(k v).den f
 | _,_, .look _ k,f=>k.den f
 | _,_, .lk iv c a b,f=>if iv=c then a.den f else b.den f
 | _,_, .lk0 k,f=>k.den f
 | _,_, .join _ _ _ i k,f=>i.den (fun _=>none)>>=fun v=>(k v).den f
 | _,_, .joinR _ _ _ up i k,f=>i.den (fun _=>none)>>=fun e=>match e with
  | .inl r=>some (up r)
  | .inr v=>(k v).den f
 | _,_, .loop _ L k,f=>L.mj>>=fun v=>(k v).den f
 | _,_, .loopR _ up L k,f=>L.mj>>=fun e=>match e with
  | .inl r=>some (up r)
  | .inr v=>(k v).den f
 | _,_, .rng _ _ l m _ _ x0 i k,f=>(if 1≤m∧m≤4611686018427387904∧l.length≤4611686018427387904 then (zEx m.toNat l).foldlM (fun x c=>(i x c).den (fun _=>none)) x0 else none)>>=fun x=>(k x).den f
 | _,_, .hold _ _ k,f=>k.den f
 | _,_, .box _ _ _ k,f=>k.den f
 | _,_, .draws _ a _,_=>a.den fun _=>none
 | _,_, .drawsL _ k,_=>k.den fun _=>none
 | _,_, .alt m1 _ _ _ _,_=>m1
 | _,_, .altE m1,_=>m1
 | _,_, .drawsM _ m1 _ _ _ _,_=>m1
 | _,_, .draws3 _ a _ _,_=>a.den fun _=>none
end
inductive Cf where
 | go (ks:List Fr) (k:Kd) (st:St)
 | lk (kk:IntKind) (iv:Int) (z:D) (cs:List PV) (ok:Bool) (dst:Option Nat) (q:Bool) (r:List zAo) (ks:List Fr) (st:St)
 | dr (fs:List (List Fr)) (st:St)
 | bad
def Cf.H (P:Program) (N:Nat) (Q:Kd→St→Prop):Cf→Prop
 | .go ks k st=>Abs.go P N Q ks k st
 | .lk kk iv z cs ok dst q r ks st=>zFY kk iv (.d z) (fun p e=>Abs.go P N Q (.o q r::ks) .norm (st.putO dst (if ok=true then .tup [p, .d (.bool e)] else p))) cs
 | .dr fs st=>∀f∈fs,Abs.go P N Q f .norm st
 | .bad=>False
def Cf.run (n:Nat):Cf→Cf
 | .go ks k st=>match adv n ks k st with
  | some x=> .go x.1 x.2.1 x.2.2
  | none=> .bad
 | _=> .bad
theorem Cf.run_H {P:Program} {N:Nat} {Q:Kd→St→Prop} {n:Nat} {x:Cf} (h:(x.run n).H P N Q):x.H P N Q:=by
 cases x with
 | go ks k st=>
  simp only [Cf.run] at h
  split at h
  ·rename_i y hy;exact zQV hy h
  ·exact h.elim
 | lk=>exact h.elim
 | dr=>exact h.elim
 | bad=>exact h.elim
def gokS:Option (Nat×Bool)→St→Bool
 | none,_=>true
 | some (t,b),st=>match st.get t with
  | some (.d (.bool c))=>c==b
  | _=>false
theorem zR8 {g:Option (Nat×Bool)} {st:St} (h:gokS g st=true):gok g st:=by
 cases g with
 | none=>trivial
 | some tb=>
  obtain ⟨t,b⟩:=tb
  simp only [gokS] at h
  split at h
  ·rename_i c hc
   have:c=b:=by simpa using h
   subst this;exact hc
  ·cases h
def Cf.op (x:Cf) (f:Option Nat→Nat→AOp→Bool→List zAo→List Fr→St→CT):CT:=match x with
 | .go (.o q (⟨dst,g,n,op⟩::r)::ks) .norm st=>bif gokS g st then f dst n op q r ks (gst g st) else .no
 | _=> .no
theorem Cf.op_good {x:Cf} {f:Option Nat→Nat→AOp→Bool→List zAo→List Fr→St→CT} (h:(x.op f).good):
  ∃dst g n op q r ks st,x= .go (.o q (⟨dst,g,n,op⟩::r)::ks) .norm st∧gok g st∧(f dst n op q r ks (gst g st)).good:=by
 unfold Cf.op at h
 split at h
 ·rename_i q dst g n op r ks st
  cases hb:gokS g st with
  | false=>rw [hb] at h;exact h.elim
  | true=>rw [hb] at h;exact ⟨dst,g,n,op,q,r,ks,st,rfl,zR8 hb,h⟩
 ·exact h.elim
def setS (t:Nat) (z:Bool):List (Nat×PV)→List (Nat×PV)
 | []=>[]
 | (e,v)::r=>(e,bif e==t then .d (.bool z) else v)::setS t z r
theorem setS_same {t:Nat} {b:Bool}:∀{l:List (Nat×PV)},(∀u∈selL t l,u= .d (.bool b))→setS t b l=l
 | [],_=>rfl
 | (e,v)::r,h=>by
  simp only [setS]
  cases he:e==t with
  | false=>simp only [cond_false];rw [setS_same fun u hu=>h u (by simp [selL,he,hu])]
  | true=>
   have:v= .d (.bool b):=h v (by simp [selL,he])
   subst this
   simp only [cond_true];rw [setS_same fun u hu=>h u (by simp [selL,he,hu])]
def St.setS (st:St) (t:Nat) (z:Bool):St:=⟨Abs.setS t z st.tm,st.bx⟩
theorem St.setS_same {st:St} {t:Nat} {b:Bool} (h:selL t st.tm=[.d (.bool b)]):st.setS t b=st:=by
 cases st with
 | mk tm bx=>
  simp only [St.setS]
  rw [Abs.setS_same fun u hu=>by simp only at h;rw [h] at hu;simpa using hu]
def zRG (t:Nat) (p:PV):List (Nat×PV)→List (Nat×PV)
 | []=>[]
 | (e,v)::r=>(e,bif e==t then p else v)::zRG t p r
theorem zLT {t:Nat} {p:PV}:∀{l:List (Nat×PV)},(∀u∈selL t l,u=p)→zRG t p l=l
 | [],_=>rfl
 | (e,v)::r,h=>by
  simp only [zRG]
  cases he:e==t with
  | false=>simp only [cond_false];rw [zLT fun u hu=>h u (by simp [selL,he,hu])]
  | true=>
   have:v=p:=h v (by simp [selL,he])
   subst this
   simp only [cond_true];rw [zLT fun u hu=>h u (by simp [selL,he,hu])]
def St.setP (st:St) (t:Nat) (p:PV):St:=⟨zRG t p st.tm,st.bx⟩
theorem St.setP_same {st:St} {t:Nat} {p:PV} (h:selL t st.tm=[p]):st.setP t p=st:=by
 cases st with
 | mk tm bx=>
  simp only [St.setP]
  rw [zLT fun u hu=>by simp only at h;rw [h] at hu;simpa using hu]
def rwV (t:Tg) (es':List D):PV→PV
 | .sl u s o e=>bif decide (u=t) then .sl u s o es' else .sl u s o e
 | p=>p
def rwVC (t:Tg) (es:List D) (r:CT):PV→CT
 | .sl u s o e=>bif decide (u=t) then .eq e es r else r
 | _=>r
theorem zTf {t:Tg} {es es':List D} (he:es=es') {r:CT}:∀{p:PV},(rwVC t es r p).good→rwV t es' p=p∧r.good:=by
 intro p h
 unfold rwVC at h
 unfold rwV
 split at h
 ·rename_i u s o e
  cases hb:decide (u=t) with
  | true=>
   rw [hb] at h
   simp only [cond_true] at h⊢
   obtain ⟨h1,h2⟩:=h
   exact ⟨by rw [h1,he],h2⟩
  | false=>rw [hb] at h;exact ⟨rfl,h⟩
 ·rename_i hn
  refine ⟨?_,h⟩
  cases p<;>first | rfl | exact absurd rfl (hn _ _ _ _)
def rwT (t:Tg) (vs:List Nat) (es':List D):List (Nat×PV)→List (Nat×PV)
 | []=>[]
 | (d,p)::l=>(d,bif vs.elem d then rwV t es' p else p)::rwT t vs es' l
def rwTC (t:Tg) (vs:List Nat) (es:List D):List (Nat×PV)→CT→CT
 | [],r=>r
 | (d,p)::l,r=>bif vs.elem d then rwVC t es (rwTC t vs es l r) p else rwTC t vs es l r
theorem zOb {t:Tg} {vs:List Nat} {es es':List D} (he:es=es') {r:CT}:∀{l:List (Nat×PV)},(rwTC t vs es l r).good→rwT t vs es' l=l∧r.good
 | [],h=>⟨rfl,h⟩
 | (d,p)::l,h=>by
  simp only [rwTC] at h
  simp only [rwT]
  cases hb:vs.elem d with
  | true=>
   rw [hb] at h
   obtain ⟨h1,h2⟩:=zTf he h
   obtain ⟨h3,h4⟩:=zOb he h2
   exact ⟨by rw [cond_true,h1,h3],h4⟩
  | false=>
   rw [hb] at h
   obtain ⟨h3,h4⟩:=zOb he h
   exact ⟨by rw [cond_false,h3],h4⟩
def rwLC (t:Tg) (es:List D):List PV→CT→CT
 | [],r=>r
 | p::l,r=>rwVC t es (rwLC t es l r) p
theorem zSU {t:Tg} {es es':List D} (he:es=es') {r:CT}:∀{l:List PV},(rwLC t es l r).good→l.map (rwV t es')=l∧r.good
 | [],h=>⟨rfl,h⟩
 | p::l,h=>by
  obtain ⟨h1,h2⟩:=zTf he h
  obtain ⟨h3,h4⟩:=zSU he h2
  exact ⟨by rw [List.map_cons,h1,h3],h4⟩
def rwB (t:Tg) (es':List D):List (Tg×List PV)→List (Tg×List PV)
 | []=>[]
 | (k,cs)::l=>(k,cs.map (rwV t es'))::rwB t es' l
def rwBC (t:Tg) (es:List D):List (Tg×List PV)→CT→CT
 | [],r=>r
 | (k,cs)::l,r=>rwLC t es cs (rwBC t es l r)
theorem zSL {t:Tg} {es es':List D} (he:es=es') {r:CT}:∀{l:List (Tg×List PV)},(rwBC t es l r).good→rwB t es' l=l∧r.good
 | [],h=>⟨rfl,h⟩
 | (k,cs)::l,h=>by
  obtain ⟨h1,h2⟩:=zSU he h
  obtain ⟨h3,h4⟩:=zSL he h2
  exact ⟨by rw [rwB,h1,h3],h4⟩
def St.rw (st:St) (t:Tg) (vs:List Nat) (es':List D):St:=⟨rwT t vs es' st.tm,rwB t es' st.bx⟩
def St.rwC (st:St) (t:Tg) (vs:List Nat) (es:List D) (r:CT):CT:=rwTC t vs es st.tm (rwBC t es st.bx r)
theorem St.rw_same {st:St} {t:Tg} {vs:List Nat} {es es':List D} (he:es=es') {r:CT} (h:(st.rwC t vs es r).good):st.rw t vs es'=st∧r.good:=by
 obtain ⟨h1,h2⟩:=zOb he h
 obtain ⟨h3,h4⟩:=zSL he h2
 exact ⟨by cases st;simp only [St.rw] at h1 h3⊢;rw [h1,h3],h4⟩
def fitC (st st':St) (r:CT):CT:= .eq (fit st st') (some st') r
def clA (ks:List Fr):Bool:=cl ks .norm&&(cl ks .ret&&cl ks (.exit 0))
theorem zJL:∀{ks:List Fr} {i j:Nat},cl ks (.exit i)=cl ks (.exit j)
 | [],i,j=>rfl
 | .c a::ks,i,j=>zJL (ks:=ks)
 | .o x a::ks,i,j=>zJL (ks:=ks)
 | .l a::ks,i,j=>zJL (ks:=ks)
 | .h a::ks,i,j=>zJL (ks:=ks)
 | .b b::ks,i,j=>by simp only [cl];rw [zJL (ks:=ks) (i:=i) (j:=j)]
theorem zJK {ks:List Fr} (h:clA ks=true):∀k,cl ks k=true:=by
 simp only [clA,Bool.and_eq_true] at h
 intro k
 cases k with
 | norm=>exact h.1
 | ret=>exact h.2.1
 | exit i=>rw [zJL (j:=0)];exact h.2.2
def offG:Option (Nat×Bool)→St→Bool
 | none,_=>false
 | some (t,b),st=>match st.get t with
  | some (.tup [])=>true
  | some (.d (.bool c))=>c== !b
  | _=>false
def zRH (kn:List Prop) (st:St) (o:zAo) (h:Ht) (r:CT):CT:=match o.dst with
 | none=> .no
 | some d=>bif offG o.guard st then .eq (selL d st.tm) [.tup []] r
  else bif gokS o.guard st then (match h with
   | .c=>match rop o.op st.val st.box with
    | some (c,v)=> .eq (cck o.op st.val st.box) true (.eq (selL d st.tm) [v] r)
    | none=> .no
   | .rd c v j=> .eq (rop o.op st.val st.box) (some (c,v)) (.eq kn[j]? (some c) (.eq (selL d st.tm) [v] r))
   | .len enc l=>match o.op with
    | .len x=> .eq (rowE (st.val x)) (some (l.map enc)) (.eq (selL d st.tm) [.d (.int .i64 (l.length:Int))] r)
    | _=> .no
   | @Ht.idx _ _ e l iv j=>match o.op with
    | .idxA sz x i=> .eq sz e.sz (.eq ((ix st.val i).map Prod.snd) (some iv) (.eq kn[j]? (some (0≤iv∧iv<(l.length:Int))) (match st.val x with
     | some (.d (.lst es))=> .eq es (l.map e.f) (.eq (selL d st.tm) [.d (.cp (e.f (at' l iv)).cells 0)] r)
     | some (.sl t s off es)=> .eq s sz (.eq es (l.map e.f) (.eq (selL d st.tm) [.ep t sz (off+iv.toNat) none (some (e.f (at' l iv)))] r))
     | _=> .no)))
    | _=> .no
   | .cut e l a b j=>match o.op with
    | .sliceS sz x lo hi none=> .eq sz e.sz (.eq (bnd st.val lo) (some a) (.eq (bnd st.val hi) (some b) (.eq kn[j]? (some (cutOk a b l.length)) (match st.val x with
     | some (.d (.lst es))=> .eq es (l.map e.f) (.eq (selL d st.tm) [.d (.lst ((cut' l a b).map e.f))] r)
     | some (.sl t s off es)=> .eq s sz (.eq es (l.map e.f) (.eq (selL d st.tm) [.sl t sz (off+(a.getD 0).toNat) ((cut' l a b).map e.f)] r))
     | _=> .no))))
    | _=> .no)
  else .no
def zQh (kn:List Prop) (st:St):List zAo→List Ht→CT→CT
 | [],_,r=>r
 | o::S,[],r=>zRH kn st o .c (zQh kn st S [] r)
 | o::S,h::hs,r=>zRH kn st o h (zQh kn st S hs r)
def zK4 (P:Program) (f:Nat) (op:AOp) (st:St):Option (List PV):=match op with
 | .call g args=>bif g==f then zA8 st.val args else none
 | .callv x args=>match st.val x with
  | some (.clo (.func g) a b)=>bif g==f then (zA8 st.val args).map fun as=>a++as++b else none
  | some (.d (.clo (.func g) a b))=>bif g==f then (zA8 st.val args).map fun as=>a.map .d++as++b.map .d else none
  | _=>none
 | .invk x m args=>match st.val x with
  | some (.ifc t px)=>match invF P t m st.box px with
   | some (g,p0)=>bif g==f then (zA8 st.val args).map (p0::·) else none
   | none=>none
  | _=>none
 | _=>none
def zNs (P:Program) (f:Nat) (op:AOp) (st:St):Option (St→Option (List PV)):=match op with
 | .call g args=>bif g==f then some fun s=>zA8 s.val args else none
 | .callv x args=>match st.val x with
  | some (.clo (.func g) a b)=>bif g==f then some (zLs f x args) else none
  | _=>none
 | .invk x m args=>match st.val x with
  | some (.ifc t px)=>match invF P t m st.box px with
   | some (g,p0)=>bif g==f then (match zA8 st.val args with
    | some _=>some (invA P f x m args)
    | none=>none) else none
   | none=>none
  | _=>none
 | _=>none
def St.got (st:St) (m:Nat) (dst:Option Nat) (p:PV):St:=(st.rebinds m p.tags).putO dst (p.mapT (zFl m))
section
variable {F:Fe}
def finC (r:F.ρ) (st:St) (c:CT):CT:= .eq (finB F.res (F.en r) (F.bx r) st) (some ⟨[(0,F.en r)],F.bx r⟩) c
def Tr.chk:{X τ:Type}→Tr F X τ→(τ→Kd→St→CT)→Option (F.ρ→τ)→(X→List Fr→Kd→St→CT)→List Prop→Cf→CT
 | _,_, .ret n v,lf,up,ag,kn,x=>match x.run n with
  | .go [] k st=>lf v k st
  | _=> .no
 | _,_, .again n y,lf,up,ag,kn,x=>match x.run n with
  | .go ks k st=>ag y ks k st
  | _=> .no
 | _,_, .halt,lf,up,ag,kn,x=> .tt
 | _,_, .let_ e k,lf,up,ag,kn,x=>(k e).chk lf up ag kn x
 | _,_, .fitT n s k,lf,up,ag,kn,x=>match x.run n with
  | .go ks kd st=> .eq (cl ks kd) true (fitC st s (k.chk lf up ag kn (.go ks kd s)))
  | _=> .no
 | _,_, @Tr.ite _ _ _ n t p _ a b,lf,up,ag,kn,x=>match x.run n with
  | .go ks kd st=> .eq (selL t st.tm) [.d (.bool (decide p))] (.and (a.chk lf up ag kn (.go ks kd (st.setS t true))) (b.chk lf up ag kn (.go ks kd (st.setS t false))))
  | _=> .no
 | _,_, @Tr.iteN _ _ _ n t p _ a b,lf,up,ag,kn,x=>match x.run n with
  | .go ks kd st=> .eq (selL t st.tm) [.d (.bool (!decide p))] (.and (a.chk lf up ag kn (.go ks kd (st.setS t true))) (b.chk lf up ag kn (.go ks kd (st.setS t false))))
  | _=> .no
 | _,_, @Tr.iteP _ _ _ n t z p _ _ a b,lf,up,ag,kn,x=>match x.run n with
  | .go ks kd st=> .eq (selL t st.tm) [.d (.bool z)] (.and (a.chk lf up ag kn (.go ks kd (st.setS t true))) (b.chk lf up ag kn (.go ks kd (st.setS t false))))
  | _=> .no
 | _,_, @Tr.cas _ _ _ n t p _ x1 y1 z1 _ _ a b,lf,up,ag,kn,x=>match x.run n with
  | .go ks kd st=> .eq (selL t st.tm) [z1] (.and (a.chk lf up ag kn (.go ks kd (st.setP t x1))) (b.chk lf up ag kn (.go ks kd (st.setP t y1))))
  | _=> .no
 | _,_, .iteB n t p a b,lf,up,ag,kn,x=>match x.run n with
  | .go ks kd st=> .eq (selL t st.tm) [.d (.bool (p))] (.and (a.chk lf up ag kn (.go ks kd (st.setS t true))) (b.chk lf up ag kn (.go ks kd (st.setS t false))))
  | _=> .no
 | _,_, .iteX n t p a b,lf,up,ag,kn,x=>match x.run n with
  | .go ks kd st=> .eq (selL t st.tm) [.d (.bool (!p))] (.and (a.chk lf up ag kn (.go ks kd (st.setS t true))) (b.chk lf up ag kn (.go ks kd (st.setS t false))))
  | _=> .no
 | _,_, .len n e l k,lf,up,ag,kn,x=>(x.run n).op fun dst m op q r ks st=>match op with
  | .len y=> .eq (rowE (st.val y)) (some (l.map e.f)) (k.chk lf up ag kn (.go (.o q r::ks) .norm (st.putO dst (.d (.int .i64 (l.length:Int))))))
  | _=> .no
 | _,_, @Tr.idx _ _ _ _ _ n e l iv k,lf,up,ag,kn,x=>(x.run n).op fun dst m op q r ks st=>match op with
  | .idxA sz y i=> .eq sz e.sz (.eq ((ix st.val i).map Prod.snd) (some iv) (match st.val y with
   | some (.d (.lst es))=> .eq es (l.map e.f) (k.chk lf up ag ((0≤iv∧iv<(l.length:Int))::kn) (.go (.o q r::ks) .norm (st.putO dst (.d (.cp (e.f (at' l iv)).cells 0)))))
   | some (.sl t s off es)=> .eq s sz (.eq es (l.map e.f) (k.chk lf up ag ((0≤iv∧iv<(l.length:Int))::kn) (.go (.o q r::ks) .norm (st.putO dst (.ep t sz (off+iv.toNat) none (some (e.f (at' l iv))))))))
   | _=> .no))
  | _=> .no
 | _,_, .cut n e l a b k,lf,up,ag,kn,x=>(x.run n).op fun dst m op q r ks st=>match op with
  | .sliceS sz y lo hi none=> .eq sz e.sz (.eq (bnd st.val lo) (some a) (.eq (bnd st.val hi) (some b) (match st.val y with
   | some (.d (.lst es))=> .eq es (l.map e.f) (k.chk lf up ag (cutOk a b l.length::kn) (.go (.o q r::ks) .norm (st.putO dst (.d (.lst ((cut' l a b).map e.f))))))
   | some (.sl t s off es)=> .eq s sz (.eq es (l.map e.f) (k.chk lf up ag (cutOk a b l.length::kn) (.go (.o q r::ks) .norm (st.putO dst (.sl t sz (off+(a.getD 0).toNat) ((cut' l a b).map e.f))))))
   | _=> .no)))
  | _=> .no
 | _,_, .app n e B l l2 k,lf,up,ag,kn,x=>(x.run n).op fun dst m op q r ks st=>match op with
  | .app el sz B' y z=> .eq B' B (.eq sz e.sz (.eq ((st.val z).bind (zDk sz)) (some (l2.map e.f)) (match st.val y with
   | some (.sl t s off es)=> .eq s sz (.eq es (l.map e.f) (k.chk lf up ag kn (.go (.o q r::ks) .norm (((st.rebind t).rebind (.s (16*m+15))).putO dst (.sl (.s (16*m+15)) sz 0 ((l++l2).map e.f))))))
   | _=> .no)))
  | _=> .no
 | _,_, .appN n e B l2 k,lf,up,ag,kn,x=>(x.run n).op fun dst m op q r ks st=>match op with
  | .app el sz B' y z=> .eq B' B (.eq sz e.sz (.eq ((st.val z).bind (zDk sz)) (some (l2.map e.f)) (.eq (st.val y) (some .nils)
   (k.chk lf up ag kn (.go (.o q r::ks) .norm (((st.rebind (.s (16*m+15))).rebind (.s (16*m+15))).putO dst (.sl (.s (16*m+15)) sz 0 (l2.map e.f))))))))
  | _=> .no
 | _,_, .mk n e B z a b k,lf,up,ag,kn,x=>(x.run n).op fun dst m op q r ks st=>match op with
  | .mkS el sz B' z' lo co=> .eq B' B (.eq sz e.sz (.eq z' (e.f z) (.eq ((ix st.val lo).map Prod.snd) (some a) (.eq ((ix st.val co).map Prod.snd) (some b)
   (k.chk lf up ag kn (.go (.o q r::ks) .norm ((st.rebind (.s (16*m+15))).putO dst (.sl (.s (16*m+15)) sz 0 ((List.replicate a.toNat z).map e.f)))))))))
  | _=> .no
 | _,_, .appZ n e B z a k,lf,up,ag,kn,x=>(x.run n).op fun dst m op q r ks st=>match op with
  | .appZ el sz B' z' y i=> .eq B' B (.eq sz e.sz (.eq z' (e.f z) (.eq (st.val y) (some .nils) (.eq ((ix st.val i).map Prod.snd) (some a)
   (k.chk lf up ag kn (.go (.o q r::ks) .norm ((st.rebind (.s (16*m+15))).putO dst (.sl (.s (16*m+15)) sz 0 ((List.replicate a.toNat z).map e.f)))))))))
  | _=> .no
 | _,_, .sto n vs e l iv v k,lf,up,ag,kn,x=>(x.run n).op fun dst m op q r ks st=>match op with
  | .store sz y z=> .eq sz e.sz (match st.val y,st.val z with
   | some (.ep t s i none el),some p=> .eq s sz (.eq i (0+iv.toNat) (.eq p.toD (some (e.f v)) (.eq (decide (t∉p.tags)&&decide (0<sz)) true (((st.frz p.tags).map (updF t s i (zEP none (e.f v)))).rwC t vs (zEP none (e.f v) (l.map e.f) i)
    (k.chk lf up ag kn (.go (.o q r::ks) .norm ((((st.frz p.tags).map (updF t s i (zEP none (e.f v)))).rw t vs ((l.set iv.toNat v).map e.f)).putO dst .unk)))))))
   | _,_=> .no)
  | _=> .no
 | _,_, .cpy n vs e l l2 k,lf,up,ag,kn,x=>(x.run n).op fun dst m op q r ks st=>match op with
  | .copy sz y z=> .eq sz e.sz (match st.val y,st.val z with
   | some (.sl t s off es),some p=> .eq s sz (.eq es (l.map e.f) (.eq (zDk sz p) (some (l2.map e.f)) (.eq (decide (t∉p.tags)) true ((st.map (cpyF t sz off l.length (l2.map e.f))).rwC t vs (cpyE (l2.map e.f) l.length (l.map e.f))
    (k.chk lf up ag kn (.go (.o q r::ks) .norm (((st.map (cpyF t sz off l.length (l2.map e.f))).rw t vs ((cpyL l l2).map e.f)).putO dst (.d (.int .i64 ((min l.length l2.length:Nat):Int))))))))))
   | _,_=> .no)
  | _=> .no
 | _,_, @Tr.rd _ _ _ n c _ v k,lf,up,ag,kn,x=>(x.run n).op fun dst m op q r ks st=> .eq (rop op st.val st.box) (some (c,v)) (k.chk lf up ag (c::kn) (.go (.o q r::ks) .norm (st.putO dst v)))
 | _,_, .ldA n kk l iv j k,lf,up,ag,kn,x=>(x.run n).op fun dst m op q r ks st=>match op with
  | .load false 1 y=>match st.val y with
   | some (.ptr t o)=> .eq o (0+iv.toNat*1) (.eq t.isM false (.eq (st.box t) (some (l.map fun v=> .d (.int kk v))) (.eq kn[j]? (some (0≤iv∧iv<(l.length:Int)))
    (k.chk lf up ag kn (.go (.o q r::ks) .norm (st.putO dst (.d (.int kk (at' l iv)))))))))
   | _=> .no
  | _=> .no
 | _,_, .convS n l k,lf,up,ag,kn,x=>(x.run n).op fun dst m op q r ks st=>match op with
  | .convS y=>match st.val y with
   | some (.d (.lst es))=> .eq es (l.map (D.int .u8)) (k.chk lf up ag kn (.go (.o q r::ks) .norm (st.putO dst (.d (.str (strB l))))))
   | some (.sl t s off es)=> .eq s 1 (.eq es (l.map (D.int .u8)) (k.chk lf up ag kn (.go (.o q r::ks) .norm (st.putO dst (.d (.str (strB l)))))))
   | _=> .no
  | _=> .no
 | _,_, .nilq n enc l m1 m2 h a b,lf,up,ag,kn,x=>(x.run n).op fun dst m op q r ks st=>match op with
  | .bin o .slice y (.c .nils)=>match zJ5 o .slice (st.val y) (some .nils) with
   | some (e,es)=> .eq es (l.map enc) (.eq (a.den fun _=>none) m1 (.eq (b.den fun _=>none) m2 (.and (a.chk lf up (fun _ _ _ _=> .no) kn (.go (.o q r::ks) .norm (st.putO dst (.d (.bool (!e)))))) (b.chk lf up (fun _ _ _ _=> .no) kn (.go (.o q r::ks) .norm (st.putO dst (.d (.bool e))))))))
   | none=> .no
  | _=> .no
 | _,_, .call (s:=s) n h nl k,lf,up,ag,kn,x=>(x.run n).op fun dst m op q r ks st=> .eq ((zK4 F.P s.f op st).bind (PV.toDBL st.box)) (some s.ds)
   (.all fun v=> .eq (s.en v).rok true ((k v).chk lf up ag kn (.go (.o q r::ks) .norm (st.got m dst (s.en v)))))
 | _,_, .callS2 (s:=s) n h nl k1 k2,lf,up,ag,kn,x=>(x.run n).op fun dst m op q r ks st=> .eq ((zK4 F.P s.f op st).bind (PV.toDBL st.box)) (some s.ds)
   (.and (.all fun v=> .eq (s.en (.inl v)).rok true ((k1 v).chk lf up ag kn (.go (.o q r::ks) .norm (st.got m dst (s.en (.inl v))))))
    (.all fun v=> .eq (s.en (.inr v)).rok true ((k2 v).chk lf up ag kn (.go (.o q r::ks) .norm (st.got m dst (s.en (.inr v)))))))
 | _,_, .callS3 (s:=s) n h nl k1 k2 k3,lf,up,ag,kn,x=>(x.run n).op fun dst m op q r ks st=> .eq ((zK4 F.P s.f op st).bind (PV.toDBL st.box)) (some s.ds)
   (.and (.all fun v=> .eq (s.en (.inl v)).rok true ((k1 v).chk lf up ag kn (.go (.o q r::ks) .norm (st.got m dst (s.en (.inl v))))))
    (.and (.all fun v=> .eq (s.en (.inr (.inl v))).rok true ((k2 v).chk lf up ag kn (.go (.o q r::ks) .norm (st.got m dst (s.en (.inr (.inl v)))))))
     (.all fun v=> .eq (s.en (.inr (.inr v))).rok true ((k3 v).chk lf up ag kn (.go (.o q r::ks) .norm (st.got m dst (s.en (.inr (.inr v)))))))))
 | _,_, .callS4 (s:=s) n h nl k1 k2 k3 k4,lf,up,ag,kn,x=>(x.run n).op fun dst m op q r ks st=> .eq ((zK4 F.P s.f op st).bind (PV.toDBL st.box)) (some s.ds)
   (.and (.all fun v=> .eq (s.en (.inl v)).rok true ((k1 v).chk lf up ag kn (.go (.o q r::ks) .norm (st.got m dst (s.en (.inl v))))))
    (.and (.all fun v=> .eq (s.en (.inr (.inl v))).rok true ((k2 v).chk lf up ag kn (.go (.o q r::ks) .norm (st.got m dst (s.en (.inr (.inl v)))))))
     (.and (.all fun v=> .eq (s.en (.inr (.inr (.inl v)))).rok true ((k3 v).chk lf up ag kn (.go (.o q r::ks) .norm (st.got m dst (s.en (.inr (.inr (.inl v))))))))
      (.all fun v=> .eq (s.en (.inr (.inr (.inr v)))).rok true ((k4 v).chk lf up ag kn (.go (.o q r::ks) .norm (st.got m dst (s.en (.inr (.inr (.inr v)))))))))))
 | _,_, .callZ (s:=s) n h k,lf,up,ag,kn,x=>(x.run n).op fun dst m op q r ks st=>match op with
  | .call f args=> .eq f s.f (match zA8 st.val args with
   | some ps=> .eq (PV.toDL ps) (some s.ds) (.all fun v=> .eq (s.en v).rok true ((k v).chk lf up ag kn (.go (.o q r::ks) .norm (((st.frz (PV.tagsL ps)).rebinds m (s.en v).tags).putO dst ((s.en v).mapT (zFl m))))))
   | none=> .no)
  | .callv y args=>(match st.val y,zA8 st.val args with
   | some (.d (.clo (.func g) a b)),some as=> .eq g s.f (.eq (PV.toDL (a.map .d++as++b.map .d)) (some s.ds) (.all fun v=> .eq (s.en v).rok true ((k v).chk lf up ag kn (.go (.o q r::ks) .norm (((st.frz (PV.tagsL (a.map .d++as++b.map .d))).rebinds m (s.en v).tags).putO dst ((s.en v).mapT (zFl m)))))))
   | _,_=> .no)
  | _=> .no
 | _,_, .callB (s:=s) n ρ h nl nlB k,lf,up,ag,kn,x=>(x.run n).op fun dst m op q r ks st=>match zNs F.P s.f op st with
  | none=> .no
  | some A=> .eq (zEX (ρ.map Prod.snd)) true (.eq (upIn ρ s.bx) true
   (.all fun v=> .eq (s.en v |>.gok ρ) true (.eq (gokB ρ (s.bx' v)) true (.eq ((A (st.rebinds m ((s.en v).tags++zBh (s.bx' v)))).bind fun as=>cvA (ρ.map Prod.snd) (gvR ρ) (gvB ρ) as s.ps) (some s.ps)
    (.eq (cvBx (gvR ρ) (gvB ρ) (st.rebinds m ((s.en v).tags++zBh (s.bx' v))) s.bx) (some s.bx)
     ((k v).chk lf up ag kn (.go (.o q r::ks) .norm (((st.rebinds m ((s.en v).tags++zBh (s.bx' v))).give ρ m (s.bx' v)).putO dst ((s.en v).mapT (sgF ρ m))))))))))
 | _,_, .srt (s:=s) n vs h k,lf,up,ag,kn,x=>(x.run n).op fun dst m op q r ks st=>match op with
  | .call f args=> .eq f s.f (match zA8 st.val args with
   | some (.sl t z off es::as)=> .eq z s.e.sz (.eq es (s.l.map s.e.f) (.eq (PV.toDL as) (some s.xs) (.eq (PV.tagsL as) [] (.all fun v=>
     ((st.map (cpyF t s.e.sz off ((s.l' v).map s.e.f).length ((s.l' v).map s.e.f))).rwC t vs (cpyE ((s.l' v).map s.e.f) ((s.l' v).map s.e.f).length (s.l.map s.e.f))
      ((k v).chk lf up ag kn (.go (.o q r::ks) .norm (((st.map (cpyF t s.e.sz off ((s.l' v).map s.e.f).length ((s.l' v).map s.e.f))).rw t vs ((s.l' v).map s.e.f)).putO dst (resV (s.k v) t off s.e (s.l' v))))))))))
   | _=> .no)
  | _=> .no
 | _,_, .callG (s:=s) n ρ Z h k,lf,up,ag,kn,x=>(x.run n).op fun dst m op q r ks st=>match zNs F.P s.f op st with
  | none=> .no
  | some A=> .eq (zEX (ρ.map Prod.snd)) true (.eq (upIn ρ s.bx) true
   (.all fun v=> .eq (s.en v |>.gok ρ) true (.eq (gokB ρ (s.bx' v)) true (.eq ((A ((st.frz Z).rebinds m ((s.en v).tags++zBh (s.bx' v)))).bind fun as=>cvL (gvR ρ) (gvB ρ) as s.ps) (some s.ps)
    (.eq (cvBx (gvR ρ) (gvB ρ) ((st.frz Z).rebinds m ((s.en v).tags++zBh (s.bx' v))) s.bx) (some s.bx)
     ((k v).chk lf up ag kn (.go (.o q r::ks) .norm ((((st.frz Z).rebinds m ((s.en v).tags++zBh (s.bx' v))).give ρ m (s.bx' v)).putO dst ((s.en v).mapT (sgF ρ m))))))))))
 | _,_, .look n k,lf,up,ag,kn,x=>(x.run n).op fun dst m op q r ks st=>match op with
  | .look kk z ok y i=>match st.val y,st.val i with
   | some (.ptr t o),some (.d (.int kk' iv))=> .eq t.isM true (.eq kk' kk (match st.box t with
    | some cs=>k.chk lf up ag kn (.lk kk iv z cs ok dst q r ks st)
    | none=> .no))
   | _,_=> .no
  | _=> .no
 | _,_, .lk iv c a b,lf,up,ag,kn,x=>match x with
  | .lk kk iv' z (.d (.int kk' c')::p::cs) ok dst q r ks st=> .eq iv' iv (.eq kk' kk (.eq c' c (.and (a.chk lf up ag kn (.go (.o q r::ks) .norm (st.putO dst (if ok=true then .tup [p, .d (.bool true)] else p)))) (b.chk lf up ag kn (.lk kk iv' z cs ok dst q r ks st)))))
  | _=> .no
 | _,_, .lk0 k,lf,up,ag,kn,x=>match x with
  | .lk kk iv z [] ok dst q r ks st=>k.chk lf up ag kn (.go (.o q r::ks) .norm (st.putO dst (if ok=true then .tup [.d z, .d (.bool false)] else .d z)))
  | _=> .no
 | _,_, .join n j S i k,lf,up,ag,kn,x=>match x.run n with
  | .go (f::ks) .norm st=>match j,f with
   | 0,f=> .eq (clA ks) true (.and (i.chk (fun v kd s=> .eq kd .norm (fitC s (S.st st v) .tt)) none (fun _ _ _ _=> .no) kn (.go [f] .norm st)) (.all fun v=>(k v).chk lf up ag kn (.go ks .norm (S.st st v))))
   | j+1, .o false os=> .eq (clA ks) true (.and (i.chk (fun v kd s=> .eq kd .norm (fitC s (S.st st v) .tt)) none (fun _ _ _ _=> .no) kn (.go [.o false (os.take (j+1))] .norm st)) (.all fun v=>(k v).chk lf up ag kn (.go (.o false (os.drop (j+1))::ks) .norm (S.st st v))))
   | _,_=> .no
  | _=> .no
 | _,_, .joinR n j S u i k,lf,up,ag,kn,x=> .eq up (some u) (match x.run n with
  | .go (f::ks) .norm st=>match j,f with
   | 0,f=> .eq (clA ks) true (.and (i.chk (fun e kd s=>match e with
     | .inl r=> .eq kd .ret (finC r s .tt)
     | .inr v=> .eq kd .norm (fitC s (S.st st v) .tt)) (some .inl) (fun _ _ _ _=> .no) kn (.go [f] .norm st)) (.all fun v=>(k v).chk lf up ag kn (.go ks .norm (S.st st v))))
   | j+1, .o false os=> .eq (clA ks) true (.and (i.chk (fun e kd s=>match e with
     | .inl r=> .eq kd .ret (finC r s .tt)
     | .inr v=> .eq kd .norm (fitC s (S.st st v) .tt)) (some .inl) (fun _ _ _ _=> .no) kn (.go [.o false (os.take (j+1))] .norm st)) (.all fun v=>(k v).chk lf up ag kn (.go (.o false (os.drop (j+1))::ks) .norm (S.st st v))))
   | _,_=> .no
  | _=> .no)
 | _,_, .loop n L k,lf,up,ag,kn,x=>match x.run n with
  | .go (.l c::ks) .norm st=> .eq c L.c (.eq (clA ks) true (fitC st L.S0 (.all fun v=>(k v).chk lf up ag kn (.go ks L.k1 (L.S' v)))))
  | _=> .no
 | _,_, .loopR n u L k,lf,up,ag,kn,x=> .eq up (some u) (match x.run n with
  | .go (.l c::ks) .norm st=> .eq c L.c (.eq (clA ks) true (fitC st L.S0 (.all fun v=>(k v).chk lf up ag kn (.go ks L.k1 (L.S' v)))))
  | _=> .no)
 | _,_, .rng (cf:=cf) n e l m hc S x0 i k,lf,up,ag,kn,x=>match x.run n with
  | .go (.c (.rng g p d its)::ks) .norm st=>match grpD its with
   | some gs=> .eq (st.val g) (some (.d (.clo (.func cf) [] [.cp [.lst (l.map e.f)] 0, .cp [.int .i64 m] 0]))) (fitC st (S.st st x0) (.and (.all fun y=> .eq (zQj p d its (S.st st y)) true (.all fun c=>
     (i y c).chk (fun v kd s=> .eq kd .norm (fitC s (S.st st v) .tt)) none (fun _ _ _ _=> .no) kn (.go (grpF gs []) .norm (((S.st st y).put p (.d (.lst (c.map e.f)))).put d (.d (.lst (c.map e.f)))))))
     (.all fun v=>(k v).chk lf up ag kn (.go ks .norm (S.st st v)))))
   | none=> .no
  | _=> .no
 | _,_, .hold n hs k,lf,up,ag,kn,x=>match x.run n with
  | .go (.h S::ks) .norm st=>zQh kn st S hs (k.chk lf up ag kn (.go ks .norm st))
  | _=> .no
 | _,_, .box n t ds k,lf,up,ag,kn,x=>match x.run n with
  | .go ks kd st=> .eq (cl ks kd) true (.eq (t.isUp||t.isM) false (.eq (st.box t) (some (ds.map .d)) (k.chk lf up ag kn (.go ks kd (st.frzB t ds)))))
  | _=> .no
 | _,_, .drawsM n m1 m2 _ a b,lf,up,ag,kn,x=>match x.run n with
  | .go (.c (.draws l)::ks) .norm st=>match frDs l ks with
   | some [f1,f2]=> .eq (a.den fun _=>none) m1 (.eq (b.den fun _=>none) m2 (.and (a.chk lf up (fun _ _ _ _=> .no) kn (.go f1 .norm st)) (b.chk lf up (fun _ _ _ _=> .no) kn (.go f2 .norm st))))
   | _=> .no
  | _=> .no
 | _,_, .drawsL n k,lf,up,ag,kn,x=>match x.run n with
  | .go (.c (.draws l)::ks) .norm st=>match frDs l ks with
   | some fs=>k.chk lf up (fun _ _ _ _=> .no) kn (.dr fs st)
   | none=> .no
  | _=> .no
 | _,_, .alt m1 m2 _ a b,lf,up,ag,kn,x=>match x with
  | .dr (f::fs) st=> .eq (a.den fun _=>none) m2 (.eq (b.den fun _=>none) m1 (.and (a.chk lf up (fun _ _ _ _=> .no) kn (.go f .norm st)) (b.chk lf up (fun _ _ _ _=> .no) kn (.dr fs st))))
  | _=> .no
 | _,_, .altE m1,lf,up,ag,kn,x=>match x with
  | .dr [] st=> .tt
  | _=> .no
 | _,_, .draws n a b,lf,up,ag,kn,x=>match x.run n with
  | .go (.c (.draws l)::ks) .norm st=>match frDs l ks with
   | some [f1,f2]=> .eq (b.den fun _=>none) (a.den fun _=>none) (.and (a.chk lf up (fun _ _ _ _=> .no) kn (.go f1 .norm st)) (b.chk lf up (fun _ _ _ _=> .no) kn (.go f2 .norm st)))
   | _=> .no
  | _=> .no
 | _,_, .draws3 n a b c,lf,up,ag,kn,x=>match x.run n with
  | .go (.c (.draws l)::ks) .norm st=>match frDs l ks with
   | some [f1,f2,f3]=> .eq (b.den fun _=>none) (a.den fun _=>none) (.eq (c.den fun _=>none) (a.den fun _=>none) (.and (a.chk lf up (fun _ _ _ _=> .no) kn (.go f1 .norm st)) (.and (b.chk lf up (fun _ _ _ _=> .no) kn (.go f2 .norm st)) (c.chk lf up (fun _ _ _ _=> .no) kn (.go f3 .norm st)))))
   | _=> .no
  | _=> .no
end
namespace Z
def eK (k:IntKind):Enc Int:=⟨D.int k,1,fun _=>rfl⟩
abbrev eI:Enc Int:=eK .i64
def eB:Enc Bool:=⟨D.bool,1,fun _=>rfl⟩
def eL {α:Type} (e:Enc α):Enc (List α):=⟨enL e.f,1,fun _=>rfl⟩
end Z
end Go.Proofs.YtnmlihfpenjeiaaGreat.Abs
