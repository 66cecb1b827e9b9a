/- Contracts of functions over pure data, and calls by them. Conditions: none. -/
import Derived.Test.YtnmlihfpenjeiaaGreatAbs2
import Derived.Orders
import Derived.Deep.LoopGhost
import Derived.RangeFuncRecord
namespace Go.Proofs.YtnmlihfpenjeiaaGreat.Abs
open Go Go.RowKit
set_option linter.unusedVariables false
set_option linter.unusedSimpArgs false
mutual
def D.flatD:D→Prop
 | .lst es=>es=[]
 | .cp _ _=>False
 | .agg cs=>D.flatL cs
 | .ifc _ x=>x.flatD
 | .clo _ a b=>D.flatL a∧D.flatL b
 | _=>True
def D.flatL:List D→Prop
 | []=>True
 | x::xs=>x.flatD∧D.flatL xs
end
theorem D.flatL_iff:∀{xs:List D},D.flatL xs↔∀x∈xs,x.flatD
 | []=>by simp [D.flatL]
 | x::xs=>by simp [D.flatL,D.flatL_iff (xs:=xs)]
mutual
def PV.noLst:PV→Prop
 | .unk=>True
 | .d x=>x.flatD
 | .nils=>True
 | .sl _ _ _ es=>∀e∈es,e.flatD
 | .ptr _ _=>False
 | .ep _ _ _ _ _=>False
 | .agg cs=>PV.noLstL cs
 | .clo _ a b=>PV.noLstL a∧PV.noLstL b
 | .ifc _ x=>x.noLst
 | .tup vs=>PV.noLstL vs
def PV.noLstL:List PV→Prop
 | []=>True
 | x::xs=>x.noLst∧PV.noLstL xs
end
mutual
def PV.rok:PV→Bool
 | .unk=>true
 | .d _=>true
 | .nils=>true
 | .sl t _ _ _=>match t with
  | .s j=>decide (j<15)
  | _=>false
 | .ptr _ _=>false
 | .ep _ _ _ _ _=>false
 | .agg cs=>PV.rokL cs
 | .clo _ a b=>PV.rokL a&&PV.rokL b
 | .ifc _ x=>x.rok
 | .tup vs=>PV.rokL vs
def PV.rokL:List PV→Bool
 | []=>true
 | x::xs=>x.rok&&PV.rokL xs
end
def zFl (n:Nat):PV→PV
 | .sl (.s j) sz off es=> .sl (.s (16*n+j)) sz off es
 | p=>p
mutual
def PV.toDB (bx:Tg→Option (List PV)):PV→Option D
 | .unk=>none
 | .d x=>some x
 | .nils=>some (.lst [])
 | .sl _ _ _ es=>some (.lst es)
 | .ptr k o=>if k.isM=true then none else match bx k with
  | some cs=>(PV.toDL cs).map fun xs=> .cp xs o
  | none=>none
 | .ep _ _ _ _ _=>none
 | .agg cs=>(PV.toDBL bx cs).map .agg
 | .clo fn a b=>match PV.toDBL bx a,PV.toDBL bx b with
  | some a',some b'=>some (.clo fn a' b')
  | _,_=>none
 | .ifc t x=>(x.toDB bx).map (.ifc t)
 | .tup _=>none
def PV.toDBL (bx:Tg→Option (List PV)):List PV→Option (List D)
 | []=>some []
 | x::xs=>match x.toDB bx,PV.toDBL bx xs with
  | some y,some ys=>some (y::ys)
  | _,_=>none
end
mutual
theorem DR.free {pr pr':Nat→Prop} {w w':World}:∀(x:D) (v:Value),x.flatD→DR pr w x v→DR pr' w' x v
 | .bool b,v,hf,h=>by simpa only [DR] using h
 | .int k n,v,hf,h=>by simpa only [DR] using h
 | .flt k n,v,hf,h=>by simpa only [DR] using h
 | .str s,v,hf,h=>by simpa only [DR] using h
 | .lst es,v,hf,h=>by
  simp only [D.flatD] at hf;subst hf
  simp only [DR] at h⊢
  rcases h with h | ⟨b,o,cap,sz,vs,h1,h2,h3,h4,h5,h6⟩
  ·exact .inl h
  ·exact .inl ⟨trivial,_,_,h1⟩
 | .agg cs,v,hf,h=>by
  simp only [D.flatD] at hf
  simp only [DR] at h⊢
  obtain ⟨arr,h1,h0,h2⟩:=h
  exact ⟨arr,h1,h0,DRs.free cs _ hf h2⟩
 | .ifc t x,v,hf,h=>by
  simp only [D.flatD] at hf
  simp only [DR] at h⊢
  obtain ⟨u,h1,h2⟩:=h
  exact ⟨u,h1,DR.free x u hf h2⟩
 | .nilif,v,hf,h=>by simpa only [DR] using h
 | .nilptr,v,hf,h=>by simpa only [DR] using h
 | .nilfn,v,hf,h=>by simpa only [DR] using h
 | .nilmap,v,hf,h=>by simpa only [DR] using h
 | .mp _,v,hf,h=>by simpa only [DR] using h
 | .clo fn a b,v,hf,h=>by
  simp only [D.flatD] at hf
  simp only [DR] at h⊢
  obtain ⟨fa,fb,h1,h2,h3⟩:=h
  exact ⟨fa,fb,h1,DRs.free a _ hf.1 h2,DRs.free b _ hf.2 h3⟩
 | .cp cs f,v,hf,h=>by simp only [D.flatD] at hf
theorem DRs.free {pr pr':Nat→Prop} {w w':World}:∀(xs:List D) (vs:List Value),D.flatL xs→DRs pr w xs vs→DRs pr' w' xs vs
 | [],vs,hf,h=>by simpa only [DRs] using h
 | x::xs,vs,hf,h=>by
  simp only [D.flatL] at hf
  simp only [DRs] at h⊢
  obtain ⟨u,us,h1,h2,h3⟩:=h
  exact ⟨u,us,h1,DR.free x u hf.1 h2,DRs.free xs us hf.2 h3⟩
end
mutual
theorem VR.free {E E':Env} {w:World} (hr:E'.row=E.row) (hb:E'.box=E.box):∀(p:PV) (v:Value),p.noLst→VR E w p v→VR E' w p v
 | .unk,v,hf,h=>by simp only [VR]
 | .d x,v,hf,h=>by simp only [PV.noLst] at hf;simp only [VR] at h⊢;exact DR.free x v hf h
 | .nils,v,hf,h=>by simpa only [VR] using h
 | .sl t sz off es,v,hf,h=>by
  simp only [PV.noLst] at hf
  simp only [VR,hr] at h⊢
  rcases h with h | ⟨b,o,cap,c,el,fr,vs,h1,h2,h3,h4,h0,h5,h6,h7,h8⟩
  ·exact .inl h
  ·exact .inr ⟨b,o,cap,c,el,fr,vs,h1,h2,h3,h4,h0,h5,h6,h7,DRs.free es vs (D.flatL_iff.2 hf) h8⟩
 | .ptr k o,v,hf,h=>by simp only [PV.noLst] at hf
 | .ep _ _ _ _ _,v,hf,h=>by simp only [PV.noLst] at hf
 | .agg cs,v,hf,h=>by
  simp only [PV.noLst] at hf
  simp only [VR] at h⊢
  obtain ⟨arr,h1,h0,h2⟩:=h
  exact ⟨arr,h1,h0,VRs.free hr hb cs _ hf h2⟩
 | .clo fn a b,v,hf,h=>by
  simp only [PV.noLst] at hf
  simp only [VR] at h⊢
  obtain ⟨fa,fb,h1,h2,h3⟩:=h
  exact ⟨fa,fb,h1,VRs.free hr hb a _ hf.1 h2,VRs.free hr hb b _ hf.2 h3⟩
 | .ifc t x,v,hf,h=>by
  simp only [PV.noLst] at hf
  simp only [VR] at h⊢
  obtain ⟨u,h1,h2⟩:=h
  exact ⟨u,h1,VR.free hr hb x u hf h2⟩
 | .tup xs,v,hf,h=>by
  simp only [PV.noLst] at hf
  simp only [VR] at h⊢
  obtain ⟨arr,h1,h2⟩:=h
  exact ⟨arr,h1,VRs.free hr hb xs _ hf h2⟩
theorem VRs.free {E E':Env} {w:World} (hr:E'.row=E.row) (hb:E'.box=E.box):∀(ps:List PV) (vs:List Value),PV.noLstL ps→VRs E w ps vs→VRs E' w ps vs
 | [],vs,hf,h=>by simpa only [VRs] using h
 | x::xs,vs,hf,h=>by
  simp only [PV.noLstL] at hf
  simp only [VRs] at h⊢
  obtain ⟨u,us,h1,h2,h3⟩:=h
  exact ⟨u,us,h1,VR.free hr hb x u hf.1 h2,VRs.free hr hb xs us hf.2 h3⟩
end
def zIz (P:Program) (f:FuncId):Prop:=∃fn,P.funcs[f]? =some fn∧fn.body.isNone=false∧(fn.name== "runtime.NumGoroutine")=false
theorem zS0 {P:Program} {w:World} {f:FuncId} (h:zIz P f) (args:Array Value):(callFunc f args).run P w= .ok (.enter f args) w:=by
 obtain ⟨fn,h1,h2,h3⟩:=h
 simp only [callFunc,Sem.run_bind,run_program,Result.andThen_ok,h1,h3,h2,Bool.false_eq_true,if_false,Sem.run_pure]
def EvF (P:Program) (f:FuncId) (ds:List D) (r:PV):Prop:=
 zIz P f∧∀(pr:Nat→Prop) (w:World) (vs:Array Value),(∀b,pr b→b<w.heap.size)→DRs pr w ds vs.toList→
  Calls P f vs w fun e w'=>∃v E',e= .returned v∧zAm E' w'∧VR E' w' r v∧Bel w w'∧(∀b,Own E' b→w.heap.size≤b)∧(∀b,pr b→E'.prot b)∧(∀b,E'.prot b→pr b∨w.heap.size≤b)
section
variable {P:Program} {E:Env} {w:World} {st:St} {tmps:Array Value}
def St.rebinds (st:St) (n:Nat):List Tg→St
 | []=>st
 | t::ts=>match t with
  | .s j=>(St.rebinds st n ts).rebind (.s (16*n+j))
  | _=>St.rebinds st n ts
def Env.unbinds (E:Env) (n:Nat):List Tg→Env
 | []=>E
 | t::ts=>match t with
  | .s j=>(Env.unbinds E n ts).unbind (.s (16*n+j))
  | _=>Env.unbinds E n ts
theorem zJf (hv:zAm E w) (hs:StR E w st tmps) (n:Nat):∀ts:List Tg,zAm (E.unbinds n ts) w∧StR (E.unbinds n ts) w (st.rebinds n ts) tmps∧Step E w (E.unbinds n ts) w∧
  (∀j, .s j∈ts→(E.unbinds n ts).row (.s (16*n+j))=none∧(E.unbinds n ts).box (.s (16*n+j))=none)∧(E.unbinds n ts).prot=E.prot∧
  (∀t r,(E.unbinds n ts).row t=some r→E.row t=some r)∧(∀t b,(E.unbinds n ts).box t=some b→E.box t=some b)
 | []=>⟨hv,hs,Step.refl _ _,by simp,rfl,fun _ _ h=>h,fun _ _ h=>h⟩
 | t::ts=>by
  obtain ⟨h1,h2,h3,h4,h5,h6,h7⟩:=zJf hv hs n ts
  cases t with
  | s j=>
   simp only [Env.unbinds,St.rebinds]
   refine ⟨h1.unbind _,h2.rebind h1 _,h3.trans (Step.unbind h1 _), ?_,h5,fun t r h=>h6 t r (Env.unbind_row.1 h).2,fun t b h=>h7 t b (Env.unbind_box.1 h).2⟩
   intro i hi
   rcases List.mem_cons.1 hi with hi | hi
   ·cases hi;simp [Env.unbind,Tg.isUp]
   ·obtain ⟨g1,g2⟩:=h4 i hi
    simp only [Env.unbind]
    constructor<;>split<;>first | rfl | assumption
  | _=>
   simp only [Env.unbinds,St.rebinds]
   refine ⟨h1,h2,h3,fun i hi=> ?_,h5,h6,h7⟩
   rcases List.mem_cons.1 hi with hi | hi
   ·cases hi
   ·exact h4 i hi
def Env.join (E E1:Env) (n:Nat) (ts:List Tg) (pr:Nat→Prop):Env:=
 ⟨fun t=>match t with
  | .s m=>if 16*n≤m∧ .s (m-16*n)∈ts then E1.row (.s (m-16*n)) else E.row t
  | t=>E.row t,E.box,pr⟩
theorem zUH {w':World} {E1:Env} {n:Nat} {ts:List Tg} {pr:Nat→Prop} (hv:zAm E w) (hs:StR E w st tmps) (hn:∀j, .s j∈ts→E.row (.s (16*n+j))=none) (h1:zAm E1 w')
  (hb:Bel w w') (hown:∀b,Own E1 b→w.heap.size≤b) (hp0:∀b,E.prot b→pr b) (hp1:∀b,pr b→E.prot b∨(w.heap.size≤b∧E1.prot b)):
  zAm (E.join E1 n ts pr) w'∧StR (E.join E1 n ts pr) w' st tmps∧Step E w (E.join E1 n ts pr) w'∧(∀j, .s j∈ts→(E.join E1 n ts pr).row (.s (16*n+j))=E1.row (.s j)):=by
 have hrow:∀t b o,(E.join E1 n ts pr).row t=some (b,o)→(∃j, .s j∈ts∧t= .s (16*n+j)∧E1.row (.s j)=some (b,o)∧w.heap.size≤b)∨(E.row t=some (b,o)∧b<w.heap.size):=by
  intro t b o h
  simp only [Env.join] at h
  split at h
  ·rename_i m
   split at h
   ·rename_i hm
    refine .inl ⟨m-16*n,hm.2,by congr 1;omega,h,hown b (.inl ⟨_,_,h⟩)⟩
   ·exact .inr ⟨h,(hv.row_lt _ _ _ h).1⟩
  ·exact .inr ⟨h,(hv.row_lt _ _ _ h).1⟩
 have hnew:∀j, .s j∈ts→(E.join E1 n ts pr).row (.s (16*n+j))=E1.row (.s j):=by
  intro j hj
  simp only [Env.join]
  rw [if_pos ⟨by omega,by rw [Nat.add_sub_cancel_left];exact hj⟩,Nat.add_sub_cancel_left]
 have hold:∀t r,E.row t=some r→(E.join E1 n ts pr).row t=some r:=by
  intro t r hr
  simp only [Env.join]
  split
  ·rename_i m
   split
   ·rename_i hm
    have:=hn _ hm.2
    rw [show 16*n+(m-16*n)=m by omega] at this
    rw [this] at hr;cases hr
   ·exact hr
  ·exact hr
 have blk:∀b,b<w.heap.size→w'.heap[b]? =w.heap[b]? :=hb.block
 refine ⟨?_, ?_, ?_,hnew⟩
 ·refine ⟨fun t b o h=> ?_,fun k b h=> ?_,fun t u b o o' ht hu=> ?_,hv.box_box,fun t k b o ht hk=> ?_,fun b h=> ?_⟩
  ·rcases hrow t b o h with ⟨j,hj,rfl,h2,h3⟩ | ⟨h2,h3⟩
   ·obtain ⟨g1,g2⟩:=h1.row_lt _ _ _ h2
    refine ⟨g1,fun hpr=> ?_⟩
    rcases hp1 b hpr with h4 | h4
    ·have:=hv.prot_lt b h4;omega
    ·exact g2 h4.2
   ·refine ⟨Nat.lt_of_lt_of_le h3 hb.size,fun hpr=> ?_⟩
    rcases hp1 b hpr with h4 | h4
    ·exact (hv.row_lt _ _ _ h2).2 h4
    ·omega
  ·obtain ⟨g1,g2⟩:=hv.box_lt k b h
   refine ⟨Nat.lt_of_lt_of_le g1 hb.size,fun hpr=> ?_⟩
   rcases hp1 b hpr with h4 | h4
   ·exact g2 h4
   ·omega
  ·rcases hrow t b o ht with ⟨j,hj,rfl,h2,h3⟩ | ⟨h2,h3⟩<;>rcases hrow u b o' hu with ⟨j',hj',rfl,h2',h3'⟩ | ⟨h2',h3'⟩
   ·have:=h1.row_row _ _ _ _ _ h2 h2';cases this;rfl
   ·omega
   ·omega
   ·exact hv.row_row _ _ _ _ _ h2 h2'
  ·rcases hrow t b o ht with ⟨j,hj,rfl,h2,h3⟩ | ⟨h2,h3⟩
   ·have:=(hv.box_lt k b hk).1;omega
   ·exact hv.row_box _ _ _ _ h2 hk
  ·rcases hp1 b h with h4 | h4
   ·exact Nat.lt_of_lt_of_le (hv.prot_lt b h4) hb.size
   ·exact h1.prot_lt b h4.2
 ·exact hs.keep hp0 (fun b h=>blk b (hv.prot_lt b h)) (fun t r hr=>⟨hold t r hr,blk _ (hv.row_lt t r.1 r.2 hr).1⟩) (fun k b h=>⟨h,blk b (hv.box_lt k b h).1⟩)
 ·refine ⟨hb.os,hb.tape,hb.output,hb.size,hb.drawn,fun b h _=>blk b h,fun b h=> ?_,hp0,fun b h=> ?_,fun t b h=> ?_⟩
  ·rcases h with ⟨t,o,h⟩ | ⟨k,h⟩
   ·rcases hrow t b o h with ⟨j,hj,rfl,h2,h3⟩ | ⟨h2,h3⟩
    ·exact .inr h3
    ·exact .inl (.inl ⟨t,o,h2⟩)
   ·exact .inl (.inr ⟨k,h⟩)
  ·rcases hp1 b h with h4 | h4
   ·exact .inl h4
   ·exact .inr (.inr h4.1)
  ·exact h
mutual
theorem zNe {E1 E2:Env} {n:Nat} (hp:∀b,E1.prot b→E2.prot b) {ts:List Tg} (hr:∀j r, .s j∈ts→E1.row (.s j)=some r→E2.row (.s (16*n+j))=some r):∀(p:PV) (v:Value),(∀t∈p.tags,t∈ts)→p.rok=true→VR E1 w p v→VR E2 w (p.mapT (zFl n)) v
 | .unk,v,ht,hk,h=>by simp only [VR,PV.mapT]
 | .d x,v,ht,hk,h=>by simp only [VR,PV.mapT] at h⊢;exact DR.mono hp (fun _ _=>rfl) x v h
 | .nils,v,ht,hk,h=>by simpa only [VR,PV.mapT] using h
 | .sl t sz off es,v,ht,hk,h=>by
  cases t with
  | s j=>
   simp only [PV.mapT,zFl]
   simp only [VR] at h⊢
   rcases h with h | ⟨b,o,cap,c,el,fr,vs,h1,h2,h3,h4,h0,h5,h6,h7,h8⟩
   ·exact .inl h
   ·exact .inr ⟨b,o,cap,c,el,fr,vs,hr j _ (ht _ (by simp [PV.tags])) h1,h2,h3,h4,h0,h5,h6,h7,DRs.mono hp (fun _ _=>rfl) _ _ h8⟩
  | _=>simp [PV.rok] at hk
 | .ptr k o,v,ht,hk,h=>by simp [PV.rok] at hk
 | .ep _ _ _ _ _,v,ht,hk,h=>by simp [PV.rok] at hk
 | .agg cs,v,ht,hk,h=>by
  simp only [PV.rok] at hk
  simp only [VR,PV.mapT] at h⊢
  obtain ⟨arr,h1,h0,h2⟩:=h
  exact ⟨arr,h1,h0,zJ7 hp hr cs _ (by simpa only [PV.tags] using ht) hk h2⟩
 | .clo fn a b,v,ht,hk,h=>by
  simp only [PV.rok,Bool.and_eq_true] at hk
  simp only [VR,PV.mapT] at h⊢
  obtain ⟨fa,fb,h1,h2,h3⟩:=h
  exact ⟨fa,fb,h1,zJ7 hp hr a _ (fun t h=>ht t (by simp [PV.tags,h])) hk.1 h2,zJ7 hp hr b _ (fun t h=>ht t (by simp [PV.tags,h])) hk.2 h3⟩
 | .ifc t x,v,ht,hk,h=>by
  simp only [PV.rok] at hk
  simp only [VR,PV.mapT] at h⊢
  obtain ⟨u,h1,h2⟩:=h
  exact ⟨u,h1,zNe hp hr x u (by simpa only [PV.tags] using ht) hk h2⟩
 | .tup xs,v,ht,hk,h=>by
  simp only [PV.rok] at hk
  simp only [VR,PV.mapT] at h⊢
  obtain ⟨arr,h1,h2⟩:=h
  exact ⟨arr,h1,zJ7 hp hr xs _ (by simpa only [PV.tags] using ht) hk h2⟩
theorem zJ7 {E1 E2:Env} {n:Nat} (hp:∀b,E1.prot b→E2.prot b) {ts:List Tg} (hr:∀j r, .s j∈ts→E1.row (.s j)=some r→E2.row (.s (16*n+j))=some r):∀(ps:List PV) (vs:List Value),(∀t∈PV.tagsL ps,t∈ts)→PV.rokL ps=true→VRs E1 w ps vs→VRs E2 w (PV.mapTL (zFl n) ps) vs
 | [],vs,ht,hk,h=>by simpa only [VRs,PV.mapTL] using h
 | x::xs,vs,ht,hk,h=>by
  simp only [PV.rokL,Bool.and_eq_true] at hk
  simp only [VRs,PV.mapTL] at h⊢
  obtain ⟨u,us,h1,h2,h3⟩:=h
  exact ⟨u,us,h1,zNe hp hr x u (fun t h=>ht t (by simp [PV.tagsL,h])) hk.1 h2,zJ7 hp hr xs us (fun t h=>ht t (by simp [PV.tagsL,h])) hk.2 h3⟩
end
end
end Go.Proofs.YtnmlihfpenjeiaaGreat.Abs
namespace Go.Proofs.YtnmlihfpenjeiaaGreat.Abs
open Go Go.RowKit
set_option linter.unusedVariables false
set_option linter.unusedSimpArgs false
def zEv (t:Tg):List (Tg×Tg)→Option Tg
 | []=>none
 | (a,b)::r=>if t=a then some b else zEv t r
theorem zGm {t s:Tg}:∀{ρ:List (Tg×Tg)},zEv t ρ=some s→(t,s)∈ρ
 | [],h=>by simp [zEv] at h
 | (a,b)::r,h=>by
  simp only [zEv] at h
  split at h
  ·rename_i he;subst he;simp at h;subst h;simp
  ·exact List.mem_cons_of_mem _ (zGm h)
theorem zMB {ρ:List (Tg×Tg)} (h:(ρ.map Prod.snd).Nodup):∀{t u s:Tg},(t,s)∈ρ→(u,s)∈ρ→t=u:=by
 induction ρ with
 | nil=>intro t u s h1;simp at h1
 | cons x r ih=>
  obtain ⟨a,b⟩:=x
  intro t u s h1 h2
  simp only [List.map_cons,List.nodup_cons] at h
  rcases List.mem_cons.1 h1 with h1 | h1<;>rcases List.mem_cons.1 h2 with h2 | h2
  ·cases h1;cases h2;rfl
  ·cases h1;exact absurd (List.mem_map_of_mem (f:=Prod.snd) h2) h.1
  ·cases h2;exact absurd (List.mem_map_of_mem (f:=Prod.snd) h1) h.1
  ·exact ih h.2 h1 h2
def srcB (ρ:List (Tg×Tg)):Tg→Option Tg
 | .up u=>some (.up u)
 | k=>match zEv k ρ with
  | some (.up _)=>none
  | x=>x
theorem zXH {ρ:List (Tg×Tg)} (hn:(ρ.map Prod.snd).Nodup) {t u s:Tg} (h1:srcB ρ t=some s) (h2:srcB ρ u=some s):t=u:=by
 have key:∀t s,srcB ρ t=some s→(t=s∧s.isUp=true)∨((t,s)∈ρ∧s.isUp=false):=by
  intro t s h
  unfold srcB at h
  split at h
  ·cases h;exact .inl ⟨rfl,rfl⟩
  ·split at h
   ·cases h
   ·rename_i x hx
    refine .inr ⟨zGm h, ?_⟩
    cases s with
    | up u=>exact absurd h (hx u)
    | _=>rfl
 rcases key t s h1 with ⟨rfl,g1⟩ | ⟨g1,g2⟩<;>rcases key u _ h2 with ⟨rfl,g3⟩ | ⟨g3,g4⟩
 ·rfl
 ·rw [g1] at g4;cases g4
 ·rw [g2] at g3;cases g3
 ·exact zMB hn g1 g3
abbrev Nm:=Tg→Option Tg
def Env.re (E:Env) (ρ β:Nm):Env:=
 ⟨fun t=>(ρ t).bind E.row,fun t=>(β t).bind E.box,E.prot⟩
theorem zLq {E:Env} {ρ β:Nm} {t:Tg} {r:Nat×Nat} (h:(E.re ρ β).row t=some r):∃s,ρ t=some s∧E.row s=some r:=by
 simp only [Env.re,Option.bind_eq_some_iff] at h
 exact h
theorem zLm {E:Env} {ρ β:Nm} {t:Tg} {r:Nat} (h:(E.re ρ β).box t=some r):∃s,β t=some s∧E.box s=some r:=by
 simp only [Env.re,Option.bind_eq_some_iff] at h
 exact h
def InjN (ρ:Nm):Prop:=∀t u s,ρ t=some s→ρ u=some s→t=u
theorem zAm.re {E:Env} {w:World} (h:zAm E w) {ρ β:Nm} (hr:InjN ρ) (hb:InjN β):zAm (E.re ρ β) w:=by
 refine ⟨fun t b o ht=> ?_,fun k b hk=> ?_,fun t u b o o' ht hu=> ?_,fun t u b ht hu=> ?_,fun t k b o ht hk=> ?_,h.prot_lt⟩
 ·obtain ⟨s,_,h2⟩:=zLq ht;exact h.row_lt _ _ _ h2
 ·obtain ⟨s,_,h2⟩:=zLm hk;exact h.box_lt _ _ h2
 ·obtain ⟨s,h1,h2⟩:=zLq ht;obtain ⟨s',h3,h4⟩:=zLq hu
  have:=h.row_row _ _ _ _ _ h2 h4;subst this
  exact hr _ _ _ h1 h3
 ·obtain ⟨s,h1,h2⟩:=zLm ht;obtain ⟨s',h3,h4⟩:=zLm hu
  have:=h.box_box _ _ _ h2 h4;subst this
  exact hb _ _ _ h1 h3
 ·obtain ⟨s,h1,h2⟩:=zLq ht;obtain ⟨s',h3,h4⟩:=zLm hk
  exact h.row_box _ _ _ _ h2 h4
theorem Own.re {E:Env} {ρ β:Nm} {b:Nat} (h:Own (E.re ρ β) b):Own E b:=by
 rcases h with ⟨t,o,h⟩ | ⟨k,h⟩
 ·obtain ⟨s,_,h2⟩:=zLq h;exact .inl ⟨_,_,h2⟩
 ·obtain ⟨s,_,h2⟩:=zLm h;exact .inr ⟨_,h2⟩
theorem Step.re (E:Env) (w:World) (ρ β:Nm) (hp:∀u,β (.up u)=some (.up u)):Step E w (E.re ρ β) w:=
 ⟨rfl,rfl,rfl,Nat.le_refl _,Nat.le_refl _,fun _ _ _=>rfl,fun b hb=> .inl hb.re,fun _ h=>h,fun _ h=> .inl h,fun t b h=>by simp only [Env.re,hp,Option.bind_some];exact h⟩
mutual
def PV.le (ρ β:Nm):PV→PV→Prop
 | p, .unk=>True
 | p, .d y=>p.tags=[]∧p.toD=some y
 | p, .nils=>p= .nils
 | p, .sl t' sz' off' es'=>match p with
  | .nils=>es'=[]
  | .sl t sz off es=>(ρ t'=some t∧sz=sz'∧off=off')∧es=es'
  | _=>False
 | p, .ptr k' o'=>match p with
  | .ptr k o=>(β k'=some k∧k.isM=k'.isM)∧o=o'
  | _=>False
 | p, .ep t' sz' i' f' e'=>match p with
  | .ep t sz i f e=>ρ t'=some t∧sz=sz'∧i=i'∧f=f'∧e=e'
  | _=>False
 | p, .agg cs'=>match p with
  | .agg cs=>PV.leL ρ β cs cs'
  | _=>False
 | p, .clo fn' a' b'=>match p with
  | .clo fn a b=>fn=fn'∧PV.leL ρ β a a'∧PV.leL ρ β b b'
  | _=>False
 | p, .ifc t' x'=>match p with
  | .ifc t x=>t=t'∧PV.le ρ β x x'
  | _=>False
 | p, .tup xs'=>match p with
  | .tup xs=>PV.leL ρ β xs xs'
  | _=>False
def PV.leL (ρ β:Nm):List PV→List PV→Prop
 | ps,[]=>ps=[]
 | ps,y::ys=>match ps with
  | p::ps=>PV.le ρ β p y∧PV.leL ρ β ps ys
  | []=>False
end
section
variable {P:Program} {E:Env} {w:World} {st:St} {tmps:Array Value}
mutual
theorem VR.le {ρ β:Nm}:∀(q p:PV) (v:Value),PV.le ρ β p q→VR E w p v→VR (E.re ρ β) w q v
 | .unk,p,v,h,hv=>by simp only [VR]
 | .d y,p,v,h,hv=>by
  simp only [PV.le] at h
  simp only [VR]
  exact zID (E:=E) (pr:=E.prot) (fun _ h=>h) p v y h.2 (fun t ht=>by rw [h.1] at ht;simp at ht) hv
 | .nils,p,v,h,hv=>by
  simp only [PV.le] at h;subst h;simpa only [VR] using hv
 | .sl t' sz' off' es',p,v,h,hv=>by
  cases p<;>simp only [PV.le] at h
  case nils=>
   subst h
   simp only [VR] at hv⊢
   exact .inl ⟨trivial,_,hv⟩
  case sl t sz off es=>
   obtain ⟨⟨h1,rfl,rfl⟩,rfl⟩:=h
   simp only [VR] at hv⊢
   rcases hv with hv | ⟨b,o,cap,c,el,fr,vs,g1,g2⟩
   ·exact .inl hv
   ·exact .inr ⟨b,o,cap,c,el,fr,vs,by simp only [Env.re,h1,Option.bind_some];exact g1,g2⟩
 | .ptr k' o',p,v,h,hv=>by
  cases p<;>simp only [PV.le] at h
  obtain ⟨⟨h1,hm⟩,rfl⟩:=h
  simp only [VR] at hv⊢
  obtain ⟨b,g1,g2⟩:=hv
  exact ⟨b,by simp only [Env.re,h1,Option.bind_some];exact g1,by rw [←zXg hm];exact g2⟩
 | .ep t' sz' i' f' e',p,v,h,hv=>by
  cases p<;>simp only [PV.le] at h
  obtain ⟨h1,rfl,rfl,rfl,rfl⟩:=h
  simp only [VR] at hv⊢
  obtain ⟨b,o,c,el,fr,g1,g2⟩:=hv
  exact ⟨b,o,c,el,fr,by simp only [Env.re,h1,Option.bind_some];exact g1,g2⟩
 | .agg cs',p,v,h,hv=>by
  cases p<;>simp only [PV.le] at h
  simp only [VR] at hv⊢
  obtain ⟨arr,g1,g0,g2⟩:=hv
  exact ⟨arr,g1,g0,VRs.le cs' _ _ h g2⟩
 | .clo fn' a' b',p,v,h,hv=>by
  cases p<;>simp only [PV.le] at h
  obtain ⟨rfl,h1,h2⟩:=h
  simp only [VR] at hv⊢
  obtain ⟨fa,fb,g1,g2,g3⟩:=hv
  exact ⟨fa,fb,g1,VRs.le a' _ _ h1 g2,VRs.le b' _ _ h2 g3⟩
 | .ifc t' x',p,v,h,hv=>by
  cases p<;>simp only [PV.le] at h
  obtain ⟨rfl,h1⟩:=h
  simp only [VR] at hv⊢
  obtain ⟨u,g1,g2⟩:=hv
  exact ⟨u,g1,VR.le x' _ _ h1 g2⟩
 | .tup xs',p,v,h,hv=>by
  cases p<;>simp only [PV.le] at h
  simp only [VR] at hv⊢
  obtain ⟨arr,g1,g2⟩:=hv
  exact ⟨arr,g1,VRs.le xs' _ _ h g2⟩
theorem VRs.le {ρ β:Nm}:∀(qs ps:List PV) (vs:List Value),PV.leL ρ β ps qs→VRs E w ps vs→VRs (E.re ρ β) w qs vs
 | [],ps,vs,h,hv=>by
  simp only [PV.leL] at h;subst h;simpa only [VRs] using hv
 | q::qs,[],vs,h,hv=>by simp only [PV.leL] at h
 | q::qs,p::ps,vs,h,hv=>by
  simp only [PV.leL] at h
  simp only [VRs] at hv⊢
  obtain ⟨u,us,g1,g2,g3⟩:=hv
  exact ⟨u,us,g1,VR.le q p u h.1 g2,VRs.le qs ps us h.2 g3⟩
end
def leTm (ρ β:Nm) (st:St):List (Nat×PV)→Prop
 | []=>True
 | (d,q)::r=>(match st.get d with
  | some p=>PV.le ρ β p q
  | none=>False)∧leTm ρ β st r
def leBx (ρ β:Nm) (st:St):List (Tg×List PV)→Prop
 | []=>True
 | (k,qs)::r=>(match β k with
  | some s=>match st.box s with
   | some ps=>PV.leL ρ β ps qs∧s.isM=k.isM
   | none=>False
  | none=>False)∧leBx ρ β st r
theorem zSb {ρ β:Nm} {d:Nat} {q:PV}:∀{l:List (Nat×PV)},leTm ρ β st l→(d,q)∈l→∃p,st.get d=some p∧PV.le ρ β p q
 | (e,x)::r,h,hm=>by
  simp only [leTm] at h
  rcases List.mem_cons.1 hm with hm | hm
  ·cases hm
   cases hg:st.get d with
   | none=>rw [hg] at h;exact h.1.elim
   | some p=>rw [hg] at h;exact ⟨p,rfl,h.1⟩
  ·exact zSb h.2 hm
 | [],_,hm=>by simp at hm
theorem zLz {ρ β:Nm} {k:Tg} {qs:List PV}:∀{l:List (Tg×List PV)},leBx ρ β st l→(k,qs)∈l→∃s ps,β k=some s∧st.box s=some ps∧PV.leL ρ β ps qs∧s.isM=k.isM
 | (e,x)::r,h,hm=>by
  simp only [leBx] at h
  rcases List.mem_cons.1 hm with hm | hm
  ·cases hm
   cases hg:β k with
   | none=>simp only [hg] at h;exact h.1.elim
   | some s=>
    simp only [hg] at h
    cases hb:st.box s with
    | none=>simp only [hb] at h;exact h.1.elim
    | some ps=>simp only [hb] at h;exact ⟨s,ps,rfl,hb,h.1⟩
  ·exact zLz h.2 hm
 | [],_,hm=>by simp at hm
theorem StR.re (hs:StR E w st tmps) {ρ β:Nm} {st':St} (h2:leTm ρ β st st'.tm) (h3:leBx ρ β st st'.bx):StR (E.re ρ β) w st' tmps:=by
 refine ⟨fun d q hq=> ?_,fun k qs hq=> ?_⟩
 ·obtain ⟨p,g1,g2⟩:=zSb h2 hq
  obtain ⟨u,g3,g4⟩:=hs.get g1
  exact ⟨u,g3,VR.le q p u g2 g4⟩
 ·obtain ⟨s,ps,g1,g2,g3,gm⟩:=zLz h3 hq
  obtain ⟨b,o,vs,k1,k2,k3,k5⟩:=hs.bx _ _ (zEd g2)
  exact ⟨b,o,vs,by simp only [Env.re,g1,Option.bind_some];exact k1,k2,k3.c gm,VRs.le qs ps _ g3 k5⟩
def St.le (ρ:List (Tg×Tg)) (st st':St):Prop:=(ρ.map Prod.snd).Nodup∧leTm (fun t=>zEv t ρ) (srcB ρ) st st'.tm∧leBx (fun t=>zEv t ρ) (srcB ρ) st st'.bx
abbrev Env.ren (E:Env) (ρ:List (Tg×Tg)):Env:=E.re (fun t=>zEv t ρ) (srcB ρ)
theorem zMm {ρ:List (Tg×Tg)} (hn:(ρ.map Prod.snd).Nodup):InjN fun t=>zEv t ρ:=fun t u s h1 h2=>zMB hn (zGm h1) (zGm h2)
theorem zAm.ren (h:zAm E w) {ρ:List (Tg×Tg)} (hn:(ρ.map Prod.snd).Nodup):zAm (E.ren ρ) w:=h.re (zMm hn) (fun _ _ _ h1 h2=>zXH hn h1 h2)
theorem Step.ren (E:Env) (w:World) (ρ:List (Tg×Tg)):Step E w (E.ren ρ) w:=Step.re E w _ _ fun u=>rfl
theorem StR.le (hs:StR E w st tmps) {ρ:List (Tg×Tg)} {st':St} (h:St.le ρ st st'):StR (E.ren ρ) w st' tmps:=hs.re h.2.1 h.2.2
end
end Go.Proofs.YtnmlihfpenjeiaaGreat.Abs
namespace Go.Proofs.YtnmlihfpenjeiaaGreat.Abs
open Go Go.RowKit
set_option linter.unusedVariables false
set_option linter.unusedSimpArgs false
def enum (n:Nat):List PV→List (Nat×PV)
 | []=>[]
 | p::ps=>(n,p)::enum (n+1) ps
theorem zOr:∀{ps:List PV} {n d:Nat} {p:PV},(d,p)∈enum n ps→n≤d∧ps[d-n]? =some p
 | [],n,d,p,h=>by simp [enum] at h
 | q::ps,n,d,p,h=>by
  simp only [enum] at h
  rcases List.mem_cons.1 h with h | h
  ·cases h;simp
  ·obtain ⟨h1,h2⟩:=zOr h
   refine ⟨by omega, ?_⟩
   rw [show d-n=(d-(n+1))+1 from by omega,List.getElem?_cons_succ];exact h2
theorem zXj:∀{ps:List PV} {n d:Nat} {p:PV},ps[d]? =some p→(n+d,p)∈enum n ps
 | [],n,d,p,h=>by simp at h
 | q::ps,n,0,p,h=>by simp at h;subst h;simp [enum]
 | q::ps,n,d+1,p,h=>by
  simp only [List.getElem?_cons_succ] at h
  simp only [enum]
  exact List.mem_cons_of_mem _ (by rw [show n+(d+1)=n+1+d from by omega];exact zXj h)
def zJ8 (ps:List PV) (bx:List (Tg×List PV)):St:=⟨enum 0 ps,bx⟩
def EvG (P:Program) (f:FuncId) (ps:List PV) (bx:List (Tg×List PV)) (r:PV) (bx':List (Tg×List PV)):Prop:=
 zIz P f∧∀(E:Env) (w:World) (vs:Array Value),zAm E w→StR E w (zJ8 ps bx) vs→vs.size=ps.length→
  Calls P f vs w fun e w'=>∃v E',e= .returned v∧zAm E' w'∧StR E' w' ⟨[(0,r)],bx'⟩ #[v]∧Step E w E' w'
def zNf (gs:List Tg):PV→PV
 | .sl u sz off es=>if u∈gs then .unk else .sl u sz off es
 | .ep u sz i f e=>if u∈gs then .unk else .ep u sz i f e
 | p=>p
def zNi (gs:List Tg):List (Tg×List PV)→List (Tg×List PV)
 | []=>[]
 | (k,cs)::r=>if k∈gs then zNi gs r else (k,cs)::zNi gs r
theorem zMn {gs:List Tg} {k:Tg} {cs:List PV}:∀{l:List (Tg×List PV)},(k,cs)∈zNi gs l→k∉gs∧(k,cs)∈l
 | [],h=>by simp [zNi] at h
 | (e,x)::r,h=>by
  simp only [zNi] at h
  split at h
  ·have:=zMn h;exact ⟨this.1,List.mem_cons_of_mem _ this.2⟩
  ·rename_i he
   rcases List.mem_cons.1 h with h | h
   ·cases h;exact ⟨he,by simp⟩
   ·have:=zMn h;exact ⟨this.1,List.mem_cons_of_mem _ this.2⟩
def sgT (ρ:List (Tg×Tg)) (n:Nat):Tg→Tg
 | .up u=>(zEv (.up u) ρ).getD (.up u)
 | .s j=> .s (16*n+j)
 | t=>t
def sgF (ρ:List (Tg×Tg)) (n:Nat):PV→PV
 | .sl t sz off es=> .sl (sgT ρ n t) sz off es
 | .ptr k o=> .ptr (sgT ρ n k) o
 | .ep t sz i f e=> .ep (sgT ρ n t) sz i f e
 | p=>p
def Tg.isS:Tg→Bool
 | .s j=>decide (j<15)
 | _=>false
def okB (ρ:List (Tg×Tg)) (k:Tg):Bool:=k.isS||(k.isUp&&match zEv k ρ with
 | some s=>s.isM==k.isM
 | none=>false)
theorem zUm {ρ:List (Tg×Tg)} {n:Nat} {k:Tg} (h:okB ρ k=true):(sgT ρ n k).isM=k.isM:=by
 cases k with
 | s j=>simp [sgT,Tg.isM]
 | h j=>rfl
 | up u=>
  simp only [okB,Tg.isS,Tg.isUp,Bool.false_or,Bool.true_and] at h
  simp only [sgT]
  split at h
  ·rename_i s hs;rw [hs];simpa using h
  ·cases h
theorem zVQ {ρ:List (Tg×Tg)} {u:Tg} (h:okB ρ (.up u)=true):(zEv (.up u) ρ).isSome=true:=by
 simp only [okB,Tg.isS,Tg.isUp,Bool.false_or,Bool.true_and] at h
 split at h
 ·rename_i s hs;rw [hs];rfl
 ·cases h
mutual
def PV.gok (ρ:List (Tg×Tg)):PV→Bool
 | .sl t _ _ _=>t.isS
 | .ptr k _=>okB ρ k
 | .ep t _ _ _ _=>t.isS
 | .agg cs=>PV.gokL ρ cs
 | .clo _ a b=>PV.gokL ρ a&&PV.gokL ρ b
 | .ifc _ x=>x.gok ρ
 | .tup vs=>PV.gokL ρ vs
 | _=>true
def PV.gokL (ρ:List (Tg×Tg)):List PV→Bool
 | []=>true
 | x::xs=>x.gok ρ&&PV.gokL ρ xs
end
def gokB (ρ:List (Tg×Tg)):List (Tg×List PV)→Bool
 | []=>true
 | (k,cs)::r=>okB ρ k&&PV.gokL ρ cs&&gokB ρ r
def zBh:List (Tg×List PV)→List Tg
 | []=>[]
 | (k,cs)::r=>k::(PV.tagsL cs++zBh r)
def sgB (ρ:List (Tg×Tg)) (n:Nat):List (Tg×List PV)→List (Tg×List PV)
 | []=>[]
 | (k,cs)::r=>(sgT ρ n k,PV.mapTL (sgF ρ n) cs)::sgB ρ n r
theorem zUU {ρ:List (Tg×Tg)} {n:Nat} {k:Tg} {cs:List PV}:∀{l:List (Tg×List PV)},(k,cs)∈sgB ρ n l→∃k' cs',(k',cs')∈l∧k=sgT ρ n k'∧cs=PV.mapTL (sgF ρ n) cs'
 | [],h=>by simp [sgB] at h
 | (e,x)::r,h=>by
  simp only [sgB] at h
  rcases List.mem_cons.1 h with h | h
  ·cases h;exact ⟨e,x,by simp,rfl,rfl⟩
  ·obtain ⟨k',cs',h1,h2⟩:=zUU h;exact ⟨k',cs',List.mem_cons_of_mem _ h1,h2⟩
theorem zSv {ρ:List (Tg×Tg)} {k:Tg} {cs:List PV}:∀{l:List (Tg×List PV)},gokB ρ l=true→(k,cs)∈l→okB ρ k=true∧PV.gokL ρ cs=true
 | [],_,h=>by simp at h
 | (e,x)::r,hg,h=>by
  simp only [gokB,Bool.and_eq_true] at hg
  rcases List.mem_cons.1 h with h | h
  ·cases h;exact hg.1
  ·exact zSv hg.2 h
theorem zQ3 {k:Tg} {cs:List PV}:∀{l:List (Tg×List PV)},(k,cs)∈l→k∈zBh l∧∀t∈PV.tagsL cs,t∈zBh l
 | [],h=>by simp at h
 | (e,x)::r,h=>by
  simp only [zBh]
  rcases List.mem_cons.1 h with h | h
  ·cases h;exact ⟨by simp,fun t ht=>by simp [ht]⟩
  ·obtain ⟨h1,h2⟩:=zQ3 h
   exact ⟨by simp [h1],fun t ht=>by simp [h2 t ht]⟩
def St.give (st:St) (ρ:List (Tg×Tg)) (n:Nat) (bx':List (Tg×List PV)):St:=
 ⟨zIl (zNf (ρ.map Prod.snd)) st.tm,sgB ρ n bx'++zNi (ρ.map Prod.snd) (zIq (zNf (ρ.map Prod.snd)) st.bx)⟩
def gvR (ρ:List (Tg×Tg)):Nm:=fun t=>if t.isUp then none else zEv t ρ
def gvB (ρ:List (Tg×Tg)):Nm:=fun t=>if t.isUp then zEv t ρ else none
def Env.give (E E':Env) (n:Nat) (ts gs:List Tg) (pr:Nat→Prop):Env:=
 ⟨fun t=>match t with
   | .s m=>if 16*n≤m∧ .s (m-16*n)∈ts then E'.row (.s (m-16*n)) else if .s m∈gs then none else E.row (.s m)
   | t=>if t∈gs then none else E.row t,
  fun t=>match t with
   | .s m=>if 16*n≤m∧ .s (m-16*n)∈ts then E'.box (.s (m-16*n)) else E.box (.s m)
   | t=>E.box t,pr⟩
section
variable {P:Program} {E:Env} {w:World} {st:St} {tmps:Array Value}
theorem zYG {ρ:List (Tg×Tg)} (hn:(ρ.map Prod.snd).Nodup):InjN (gvR ρ):=by
 intro t u s h1 h2
 unfold gvR at h1 h2
 split at h1<;>split at h2<;>first | (cases h1;done) | (cases h2;done) | exact zMm hn _ _ _ h1 h2
theorem zY4 {ρ:List (Tg×Tg)} (hn:(ρ.map Prod.snd).Nodup):InjN (gvB ρ):=by
 intro t u s h1 h2
 unfold gvB at h1 h2
 split at h1<;>split at h2<;>first | (cases h1;done) | (cases h2;done) | exact zMm hn _ _ _ h1 h2
theorem zWv {ρ:List (Tg×Tg)} {pr:Nat→Prop} {t:Tg} {r:Nat×Nat} (h:(⟨(E.re (gvR ρ) (gvB ρ)).row,(E.re (gvR ρ) (gvB ρ)).box,pr⟩:Env).row t=some r):∃s,s∈ρ.map Prod.snd∧E.row s=some r:=by
 obtain ⟨s,h1,h2⟩:=zLq (E:=E) (ρ:=gvR ρ) (β:=gvB ρ) h
 refine ⟨s, ?_,h2⟩
 unfold gvR at h1
 split at h1
 ·cases h1
 ·exact List.mem_map_of_mem (f:=Prod.snd) (zGm h1)
theorem zWr {ρ:List (Tg×Tg)} {pr:Nat→Prop} {t:Tg} {b:Nat} (h:(⟨(E.re (gvR ρ) (gvB ρ)).row,(E.re (gvR ρ) (gvB ρ)).box,pr⟩:Env).box t=some b):∃s u,t= .up u∧s∈ρ.map Prod.snd∧E.box s=some b:=by
 obtain ⟨s,h1,h2⟩:=zLm (E:=E) (ρ:=gvR ρ) (β:=gvB ρ) h
 unfold gvB at h1
 split at h1
 ·rename_i hu
  cases t with
  | up u=>exact ⟨s,u,rfl,List.mem_map_of_mem (f:=Prod.snd) (zGm h1),h2⟩
  | _=>simp [Tg.isUp] at hu
 ·cases h1
mutual
theorem sg_R {E1 E2:Env} {w:World} {ρ:List (Tg×Tg)} {n:Nat} {ts:List Tg} (hp:E2.prot=E1.prot) (hr:∀j r, .s j∈ts→E1.row (.s j)=some r→E2.row (.s (16*n+j))=some r)
  (hb:∀k b,okB ρ k=true→(k.isS=true→k∈ts)→E1.box k=some b→E2.box (sgT ρ n k)=some b):
  ∀(p:PV) (v:Value),p.gok ρ=true→(∀t∈p.tags,t∈ts)→VR E1 w p v→VR E2 w (p.mapT (sgF ρ n)) v
 | .unk,v,hk,ht,h=>by simp only [VR,PV.mapT]
 | .d x,v,hk,ht,h=>by simp only [VR,PV.mapT] at h⊢;rw [hp];exact h
 | .nils,v,hk,ht,h=>by simpa only [VR,PV.mapT] using h
 | .sl t sz off es,v,hk,ht,h=>by
  cases t with
  | s j=>
   simp only [PV.mapT,sgF,sgT]
   simp only [VR] at h⊢
   rcases h with h | ⟨b,o,cap,c,el,fr,vs,h1,h2,h3,h4,h0,h5,h6,h7,h8⟩
   ·exact .inl h
   ·exact .inr ⟨b,o,cap,c,el,fr,vs,hr j _ (ht _ (by simp [PV.tags])) h1,h2,h3,h4,h0,h5,h6,h7,by rw [hp];exact h8⟩
  | _=>simp [PV.gok,Tg.isS] at hk
 | .ptr k o,v,hk,ht,h=>by
  simp only [PV.gok] at hk
  simp only [PV.mapT,sgF]
  simp only [VR] at h⊢
  obtain ⟨b,h1,h2⟩:=h
  exact ⟨b,hb k b hk (fun _=>ht _ (by simp [PV.tags])) h1,by rw [zXg (zUm hk)];exact h2⟩
 | .ep t sz i f e,v,hk,ht,h=>by
  cases t with
  | s j=>
   simp only [PV.mapT,sgF,sgT]
   simp only [VR] at h⊢
   obtain ⟨b,o,c,el,fr,h1,h2,h3,hf,h4,h5⟩:=h
   exact ⟨b,o,c,el,fr,hr j _ (ht _ (by simp [PV.tags])) h1,h2,h3,hf,h4,by rw [hp];exact h5⟩
  | _=>simp [PV.gok,Tg.isS] at hk
 | .agg cs,v,hk,ht,h=>by
  simp only [PV.gok] at hk
  simp only [VR,PV.mapT] at h⊢
  obtain ⟨arr,h1,h0,h2⟩:=h
  exact ⟨arr,h1,h0,zNb hp hr hb cs _ hk (by simpa only [PV.tags] using ht) h2⟩
 | .clo fn a b,v,hk,ht,h=>by
  simp only [PV.gok,Bool.and_eq_true] at hk
  simp only [VR,PV.mapT] at h⊢
  obtain ⟨fa,fb,h1,h2,h3⟩:=h
  exact ⟨fa,fb,h1,zNb hp hr hb a _ hk.1 (fun t h=>ht t (by simp [PV.tags,h])) h2,zNb hp hr hb b _ hk.2 (fun t h=>ht t (by simp [PV.tags,h])) h3⟩
 | .ifc t x,v,hk,ht,h=>by
  simp only [PV.gok] at hk
  simp only [VR,PV.mapT] at h⊢
  obtain ⟨u,h1,h2⟩:=h
  exact ⟨u,h1,sg_R hp hr hb x u hk (by simpa only [PV.tags] using ht) h2⟩
 | .tup xs,v,hk,ht,h=>by
  simp only [PV.gok] at hk
  simp only [VR,PV.mapT] at h⊢
  obtain ⟨arr,h1,h2⟩:=h
  exact ⟨arr,h1,zNb hp hr hb xs _ hk (by simpa only [PV.tags] using ht) h2⟩
theorem zNb {E1 E2:Env} {w:World} {ρ:List (Tg×Tg)} {n:Nat} {ts:List Tg} (hp:E2.prot=E1.prot) (hr:∀j r, .s j∈ts→E1.row (.s j)=some r→E2.row (.s (16*n+j))=some r)
  (hb:∀k b,okB ρ k=true→(k.isS=true→k∈ts)→E1.box k=some b→E2.box (sgT ρ n k)=some b):
  ∀(ps:List PV) (vs:List Value),PV.gokL ρ ps=true→(∀t∈PV.tagsL ps,t∈ts)→VRs E1 w ps vs→VRs E2 w (PV.mapTL (sgF ρ n) ps) vs
 | [],vs,hk,ht,h=>by simpa only [VRs,PV.mapTL] using h
 | x::xs,vs,hk,ht,h=>by
  simp only [PV.gokL,Bool.and_eq_true] at hk
  simp only [VRs,PV.mapTL] at h⊢
  obtain ⟨u,us,h1,h2,h3⟩:=h
  exact ⟨u,us,h1,sg_R hp hr hb x u hk.1 (fun t h=>ht t (by simp [PV.tagsL,h])) h2,zNb hp hr hb xs us hk.2 (fun t h=>ht t (by simp [PV.tagsL,h])) h3⟩
end
theorem zYN {w':World} {E':Env} {n:Nat} {ρ:List (Tg×Tg)} {ts:List Tg} {pr1 pr2:Nat→Prop} {bx':List (Tg×List PV)} (hv:zAm E w) (hs:StR E w st tmps)
  (hn:∀j, .s j∈ts→E.row (.s (16*n+j))=none∧E.box (.s (16*n+j))=none)
  (hin:∀u s,zEv (.up u) ρ=some s→∃b,E.box s=some b)
  (h1:zAm E' w') (hst:Step ⟨(E.re (gvR ρ) (gvB ρ)).row,(E.re (gvR ρ) (gvB ρ)).box,pr1⟩ w E' w') (hp0:∀b,E.prot b→pr2 b) (hp3:∀b,E.prot b→E'.prot b)
  (hp1:∀b,pr2 b→E.prot b∨(E'.prot b∧(Own ⟨(E.re (gvR ρ) (gvB ρ)).row,(E.re (gvR ρ) (gvB ρ)).box,pr1⟩ b∨w.heap.size≤b)))
  (hg:gokB ρ bx'=true) (hts:∀t∈zBh bx',t∈ts) (hbx:StR ⟨E'.row,E'.box,pr2⟩ w' ⟨[],bx'⟩ #[]):
  zAm (E.give E' n ts (ρ.map Prod.snd) pr2) w'∧StR (E.give E' n ts (ρ.map Prod.snd) pr2) w' (st.give ρ n bx') tmps∧Step E w (E.give E' n ts (ρ.map Prod.snd) pr2) w'∧
   (∀p v,p.gok ρ=true→(∀t∈p.tags,t∈ts)→VR ⟨E'.row,E'.box,pr2⟩ w' p v→VR (E.give E' n ts (ρ.map Prod.snd) pr2) w' (p.mapT (sgF ρ n)) v):=by
 generalize hE1:(⟨(E.re (gvR ρ) (gvB ρ)).row,(E.re (gvR ρ) (gvB ρ)).box,pr1⟩:Env)=E1 at*
 have own1:∀b,Own E1 b→(∃s o,s∈ρ.map Prod.snd∧E.row s=some (b,o))∨(∃s u,s∈ρ.map Prod.snd∧E.box s=some b∧E'.box (.up u)=some b):=by
  rintro b (⟨t,o,h⟩ | ⟨k,h⟩)
  ·subst hE1;obtain ⟨s,h2,h3⟩:=zWv h;exact .inl ⟨s,o,h2,h3⟩
  ·have hk:=h
   subst hE1;obtain ⟨s,u,rfl,h2,h3⟩:=zWr h
   exact .inr ⟨s,u,h2,h3,hst.pin _ _ hk⟩
 have ownE:∀b,Own E1 b→Own E b:=fun b h=>(own1 b h).elim (fun ⟨s,o,_,h⟩=> .inl ⟨s,o,h⟩) (fun ⟨s,u,_,h,_⟩=> .inr ⟨s,h⟩)
 have own':∀b,Own E' b→Own E1 b∨w.heap.size≤b:=hst.own
 have hsz:w.heap.size≤w'.heap.size:=hst.size
 have blk:∀b,b<w.heap.size→¬Own E1 b→w'.heap[b]? =w.heap[b]? :=hst.frame
 have hrow:∀t b o,(E.give E' n ts (ρ.map Prod.snd) pr2).row t=some (b,o)→(∃j, .s j∈ts∧t= .s (16*n+j)∧E'.row (.s j)=some (b,o))∨(t∉ρ.map Prod.snd∧E.row t=some (b,o)):=by
  intro t b o h
  simp only [Env.give] at h
  split at h
  ·rename_i m
   split at h
   ·rename_i hm;exact .inl ⟨m-16*n,hm.2,by congr 1;omega,h⟩
   ·split at h
    ·cases h
    ·rename_i hm;exact .inr ⟨hm,h⟩
  ·split at h
   ·cases h
   ·rename_i hm;exact .inr ⟨hm,h⟩
 have hbox:∀t b,(E.give E' n ts (ρ.map Prod.snd) pr2).box t=some b→(∃j, .s j∈ts∧t= .s (16*n+j)∧E'.box (.s j)=some b)∨E.box t=some b:=by
  intro t b h
  simp only [Env.give] at h
  split at h
  ·rename_i m
   split at h
   ·rename_i hm;exact .inl ⟨m-16*n,hm.2,by congr 1;omega,h⟩
   ·exact .inr h
  ·exact .inr h
 have nrow:∀j, .s j∈ts→(E.give E' n ts (ρ.map Prod.snd) pr2).row (.s (16*n+j))=E'.row (.s j):=by
  intro j hj
  simp only [Env.give]
  rw [if_pos ⟨by omega,by rw [Nat.add_sub_cancel_left];exact hj⟩,Nat.add_sub_cancel_left]
 have nbox:∀j, .s j∈ts→(E.give E' n ts (ρ.map Prod.snd) pr2).box (.s (16*n+j))=E'.box (.s j):=by
  intro j hj
  simp only [Env.give]
  rw [if_pos ⟨by omega,by rw [Nat.add_sub_cancel_left];exact hj⟩,Nat.add_sub_cancel_left]
 have orow:∀t r,t∉ρ.map Prod.snd→E.row t=some r→(E.give E' n ts (ρ.map Prod.snd) pr2).row t=some r:=by
  intro t r ht hr
  simp only [Env.give]
  split
  ·rename_i m
   split
   ·rename_i hm
    have:=(hn _ hm.2).1
    rw [show 16*n+(m-16*n)=m by omega] at this
    rw [this] at hr;cases hr
   ·first | exact hr | (rw [if_neg ht];exact hr)
  ·first | exact hr | (rw [if_neg ht];exact hr)
 have obox:∀t b,E.box t=some b→(E.give E' n ts (ρ.map Prod.snd) pr2).box t=some b:=by
  intro t b hb
  simp only [Env.give]
  split
  ·rename_i m
   split
   ·rename_i hm
    have:=(hn _ hm.2).2
    rw [show 16*n+(m-16*n)=m by omega] at this
    rw [this] at hb;cases hb
   ·exact hb
  ·exact hb
 have stayR:∀t b o,t∉ρ.map Prod.snd→E.row t=some (b,o)→¬Own E1 b∧b<w.heap.size:=by
  intro t b o ht hr
  refine ⟨fun ho=> ?_,(hv.row_lt _ _ _ hr).1⟩
  rcases own1 b ho with ⟨s,o',h2,h3⟩ | ⟨s,u,h2,h3,_⟩
  ·have:=hv.row_row _ _ _ _ _ hr h3;subst this;exact ht h2
  ·exact hv.row_box _ _ _ _ hr h3
 have stayB:∀k b,k∉ρ.map Prod.snd→E.box k=some b→¬Own E1 b∧b<w.heap.size:=by
  intro k b hk hb
  refine ⟨fun ho=> ?_,(hv.box_lt _ _ hb).1⟩
  rcases own1 b ho with ⟨s,o',h2,h3⟩ | ⟨s,u,h2,h3,_⟩
  ·exact hv.row_box _ _ _ _ h3 hb
  ·have:=hv.box_box _ _ _ hb h3;subst this;exact hk h2
 have stayP:∀b,E.prot b→w'.heap[b]? =w.heap[b]? :=fun b hb=>blk b (hv.prot_lt b hb) (fun ho=>(hv.own_lt (ownE b ho)).2 hb)
 have valid:zAm (E.give E' n ts (ρ.map Prod.snd) pr2) w':=by
  refine ⟨fun t b o h=> ?_,fun k b h=> ?_,fun t u b o o' ht hu=> ?_,fun t u b ht hu=> ?_,fun t k b o ht hk=> ?_,fun b h=> ?_⟩
  ·rcases hrow t b o h with ⟨j,hj,rfl,h2⟩ | ⟨h2,h3⟩
   ·obtain ⟨g1,g2⟩:=h1.row_lt _ _ _ h2
    exact ⟨g1,fun hpr=>(hp1 b hpr).elim (fun h=>g2 (hp3 b h)) (fun h=>g2 h.1)⟩
   ·obtain ⟨g1,g2⟩:=stayR t b o h2 h3
    refine ⟨Nat.lt_of_lt_of_le g2 hsz,fun hpr=> ?_⟩
    rcases hp1 b hpr with h4 | ⟨_,h4 | h4⟩
    ·exact (hv.row_lt _ _ _ h3).2 h4
    ·exact g1 h4
    ·omega
  ·rcases hbox k b h with ⟨j,hj,rfl,h2⟩ | h3
   ·obtain ⟨g1,g2⟩:=h1.box_lt _ _ h2
    exact ⟨g1,fun hpr=>(hp1 b hpr).elim (fun h=>g2 (hp3 b h)) (fun h=>g2 h.1)⟩
   ·refine ⟨Nat.lt_of_lt_of_le (hv.box_lt _ _ h3).1 hsz,fun hpr=> ?_⟩
    rcases hp1 b hpr with h4 | ⟨h5,h4 | h4⟩
    ·exact (hv.box_lt _ _ h3).2 h4
    ·rcases own1 b h4 with ⟨s,o',h6,h7⟩ | ⟨s,u,h6,h7,h8⟩
     ·exact hv.row_box _ _ _ _ h7 h3
     ·exact (h1.box_lt _ _ h8).2 h5
    ·have:=(hv.box_lt _ _ h3).1;omega
  ·rcases hrow t b o ht with ⟨j,hj,rfl,h2⟩ | ⟨h2,h3⟩<;>rcases hrow u b o' hu with ⟨j',hj',rfl,h2'⟩ | ⟨h2',h3'⟩
   ·have:=h1.row_row _ _ _ _ _ h2 h2';cases this;rfl
   ·obtain ⟨g1,g2⟩:=stayR _ _ _ h2' h3'
    rcases own' b (.inl ⟨_,_,h2⟩) with h | h
    ·exact absurd h g1
    ·omega
   ·obtain ⟨g1,g2⟩:=stayR _ _ _ h2 h3
    rcases own' b (.inl ⟨_,_,h2'⟩) with h | h
    ·exact absurd h g1
    ·omega
   ·exact hv.row_row _ _ _ _ _ h3 h3'
  ·have mix:∀j k b,E'.box (.s j)=some b→E.box k=some b→False:=by
    intro j k b h2 h3
    have hlt:=(hv.box_lt _ _ h3).1
    rcases own' b (.inr ⟨_,h2⟩) with h | h
    ·rcases own1 b h with ⟨s,o',h6,h7⟩ | ⟨s,u,h6,h7,h8⟩
     ·exact hv.row_box _ _ _ _ h7 h3
     ·have:=h1.box_box _ _ _ h2 h8;cases this
    ·omega
   rcases hbox t b ht with ⟨j,hj,rfl,h2⟩ | h3<;>rcases hbox u b hu with ⟨j',hj',rfl,h2'⟩ | h3'
   ·have:=h1.box_box _ _ _ h2 h2';cases this;rfl
   ·exact (mix _ _ _ h2 h3').elim
   ·exact (mix _ _ _ h2' h3).elim
   ·exact hv.box_box _ _ _ h3 h3'
  ·rcases hrow t b o ht with ⟨j,hj,rfl,h2⟩ | ⟨h2,h3⟩<;>rcases hbox k b hk with ⟨j',hj',rfl,h2'⟩ | h3'
   ·exact h1.row_box _ _ _ _ h2 h2'
   ·have hlt:=(hv.box_lt _ _ h3').1
    rcases own' b (.inl ⟨_,_,h2⟩) with h | h
    ·rcases own1 b h with ⟨s,o',h6,h7⟩ | ⟨s,u,h6,h7,h8⟩
     ·exact hv.row_box _ _ _ _ h7 h3'
     ·exact h1.row_box _ _ _ _ h2 h8
    ·omega
   ·obtain ⟨g1,g2⟩:=stayR _ _ _ h2 h3
    rcases own' b (.inr ⟨_,h2'⟩) with h | h
    ·exact g1 h
    ·omega
   ·exact hv.row_box _ _ _ _ h3 h3'
  ·rcases hp1 b h with h4 | h4
   ·exact Nat.lt_of_lt_of_le (hv.prot_lt b h4) hsz
   ·exact h1.prot_lt b h4.1
 have step:Step E w (E.give E' n ts (ρ.map Prod.snd) pr2) w':=by
  refine ⟨hst.os,hst.tape,hst.output,hsz,hst.drawn,fun b h ho=>blk b h (fun h=>ho (ownE b h)),fun b h=> ?_,hp0,fun b h=> ?_,fun t b h=> ?_⟩
  ·rcases h with ⟨t,o,h⟩ | ⟨k,h⟩
   ·rcases hrow t b o h with ⟨j,hj,rfl,h2⟩ | ⟨h2,h3⟩
    ·exact (own' b (.inl ⟨_,_,h2⟩)).imp (ownE b) id
    ·exact .inl (.inl ⟨t,o,h3⟩)
   ·rcases hbox k b h with ⟨j,hj,rfl,h2⟩ | h3
    ·exact (own' b (.inr ⟨_,h2⟩)).imp (ownE b) id
    ·exact .inl (.inr ⟨k,h3⟩)
  ·rcases hp1 b h with h4 | ⟨_,h4 | h4⟩
   ·exact .inl h4
   ·exact .inr (.inl (ownE b h4))
   ·exact .inr (.inr h4)
  ·exact obox _ _ h
 have leaf:∀p v,p.leaf=true→VR E w p v→VR (E.give E' n ts (ρ.map Prod.snd) pr2) w' (zNf (ρ.map Prod.snd) p) v:=by
  intro p v hl h
  have hk:∀u,u∉ρ.map Prod.snd→zHL E (E.give E' n ts (ρ.map Prod.snd) pr2) w w' [u]:=fun u hu=>
   ⟨hp0,stayP,fun x hx r hr=>by
    simp at hx;subst hx
    obtain ⟨g1,g2⟩:=stayR x r.1 r.2 hu hr
    exact ⟨orow _ _ hu hr,blk _ g2 g1⟩,fun x hx b hb=>obox _ _ hb⟩
  cases p with
  | sl u sz off es=>
   simp only [zNf];split
   ·simp [VR]
   ·rename_i hu;exact VR.keep _ _ (hk u hu) h
  | ptr u o=>
   simp only [zNf,VR] at h⊢
   obtain ⟨b,g1,g2⟩:=h
   exact ⟨b,obox _ _ g1,g2⟩
  | ep u sz i f e=>
   simp only [zNf];split
   ·simp [VR]
   ·rename_i hu;exact VR.keep _ _ (hk u hu) h
  | _=>simp [PV.leaf] at hl
 have newB:∀k b,okB ρ k=true→(k.isS=true→k∈ts)→E'.box k=some b→(E.give E' n ts (ρ.map Prod.snd) pr2).box (sgT ρ n k)=some b:=by
  intro k b hk hkt hb
  cases k with
  | s j=>simp only [sgT];rw [nbox j (hkt (by simpa [okB,Tg.isUp] using hk))];exact hb
  | h j=>simp [okB,Tg.isS,Tg.isUp] at hk
  | up u=>
   have hk':=zVQ hk
   obtain ⟨s,hs'⟩:=Option.isSome_iff_exists.1 hk'
   simp only [sgT,hs',Option.getD_some]
   obtain ⟨b0,hbs⟩:=hin u s hs'
   have h2:E1.box (.up u)=some b0:=by
    subst hE1
    simp only [Env.re,gvB,Tg.isUp,if_true,hs',Option.bind_some];exact hbs
   have:=hst.pin _ _ h2
   rw [hb] at this;cases this
   exact obox _ _ hbs
 have resR:∀p v,p.gok ρ=true→(∀t∈p.tags,t∈ts)→VR ⟨E'.row,E'.box,pr2⟩ w' p v→VR (E.give E' n ts (ρ.map Prod.snd) pr2) w' (p.mapT (sgF ρ n)) v:=
  sg_R (E1:=⟨E'.row,E'.box,pr2⟩) rfl (fun j r hj hr=>by rw [nrow j hj];exact hr) newB
 refine ⟨valid,⟨fun d v hm=> ?_,fun k cs hm=> ?_⟩,step,resR⟩
 ·obtain ⟨u,g1,rfl⟩:=zIA hm
  obtain ⟨x,g2,g3⟩:=hs.tm d u g1
  exact ⟨x,g2,VR.map hp0 stayP leaf u x g3⟩
 ·simp only [St.give] at hm
  rcases List.mem_append.1 hm with hm | hm
  ·obtain ⟨k',cs',g1,rfl,rfl⟩:=zUU hm
   obtain ⟨g2,g3⟩:=zSv hg g1
   obtain ⟨b,o,vs,k1,k2,k3,k5⟩:=hbx.bx k' cs' g1
   obtain ⟨k6,k7⟩:=zQ3 g1
   refine ⟨b,o,vs,newB k' b g2 (fun _=>hts _ k6) k1,k2,k3.c (zUm g2).symm, ?_⟩
   exact zNb (E1:=⟨E'.row,E'.box,pr2⟩) (E2:=E.give E' n ts (ρ.map Prod.snd) pr2) rfl (fun j r hj hr=>by rw [nrow j hj];exact hr) newB cs' _ g3 (fun t ht=>hts _ (k7 t ht)) k5
  ·obtain ⟨hne,hm⟩:=zMn hm
   obtain ⟨u,g1,rfl⟩:=zIS hm
   obtain ⟨b,o,vs,k1,k2,k3,k5⟩:=hs.bx k u g1
   obtain ⟨g2,g3⟩:=stayB k b hne k1
   exact ⟨b,o,vs,obox _ _ k1,by rw [blk b g3 g2];exact k2,k3,VRs.map hp0 stayP leaf u _ k5⟩
end
end Go.Proofs.YtnmlihfpenjeiaaGreat.Abs
namespace Go.Proofs.YtnmlihfpenjeiaaGreat.Abs
open Go Go.RowKit
set_option linter.unusedVariables false
set_option linter.unusedSimpArgs false
section
variable {P:Program} {E:Env} {w:World} {st:St} {tmps:Array Value}
mutual
theorem zPv {bx:Tg→Option (List PV)} {pr:Nat→Prop} (hp:∀b,E.prot b∨Own E b→pr b) (hB:BxR E w bx):∀(p:PV) (v:Value) (x:D),p.toDB bx=some x→VR E w p v→DR pr w x v
 | .unk,v,x,h,hv=>by simp [PV.toDB] at h
 | .d y,v,x,h,hv=>by
  simp only [PV.toDB,Option.some.injEq] at h;subst h
  simp only [VR] at hv
  exact DR.mono (fun b h=>hp b (.inl h)) (fun _ _=>rfl) _ _ hv
 | .nils,v,x,h,hv=>by
  simp only [PV.toDB,Option.some.injEq] at h;subst h
  simp only [VR] at hv;subst hv
  simp only [DR];exact .inl ⟨trivial,_,_,rfl⟩
 | .sl t sz off es,v,x,h,hv=>by
  simp only [PV.toDB,Option.some.injEq] at h;subst h
  simp only [VR,DR] at hv⊢
  rcases hv with ⟨h,a,h'⟩ | ⟨b,o,cap,c,el,fr,vs,h1,h2,h3,h4,hf,h5,h6,h7,h8⟩
  ·exact .inl ⟨h,a,0,h'⟩
  ·exact .inr ⟨b,_,cap,sz,vs,h2,h3,hp b (.inr (.inl ⟨t,o,h1⟩)),h6,h7,DRs.mono (fun b h=>hp b (.inl h)) (fun _ _=>rfl) _ _ h8⟩
 | .ptr k o,v,x,h,hv=>by
  simp only [PV.toDB] at h
  split at h
  ·cases h
  rename_i hM
  split at h
  ·rename_i cs h1
   simp only [Option.map_eq_some_iff] at h
   obtain ⟨xs,h2,rfl⟩:=h
   simp only [VR] at hv
   obtain ⟨b,h3,rfl⟩:=hv
   rw [zFg (by simpa using hM)]
   obtain ⟨b',c,el,fr,k1,k2,k3,k4,k5⟩:=hB _ _ h1 (by simpa using hM)
   rw [h3] at k1;cases k1
   simp only [DR]
   refine ⟨b,0,c.toList,by simp,hp b (.inr (.inr ⟨k,h3⟩)),k4, ?_,zEI (fun b h=>hp b (.inl h)) _ _ _ h2 (fun t _ b o hr=>hp b (.inr (.inl ⟨t,o,hr⟩))) k5⟩
   intro i y hy
   simp only [World.cell?,k2,Nat.zero_add]
   simpa using hy
  ·cases h
 | .ep _ _ _ _ _,v,x,h,hv=>by simp [PV.toDB] at h
 | .agg cs,v,x,h,hv=>by
  simp only [PV.toDB,Option.map_eq_some_iff] at h
  obtain ⟨ys,h1,rfl⟩:=h
  simp only [VR,DR] at hv⊢
  obtain ⟨arr,h2,h0,h3⟩:=hv
  exact ⟨arr,h2,h0,zGU hp hB cs _ ys h1 h3⟩
 | .clo fn a b,v,x,h,hv=>by
  simp only [PV.toDB] at h
  split at h
  ·rename_i a' b' h1 h2
   simp only [Option.some.injEq] at h;subst h
   simp only [VR,DR] at hv⊢
   obtain ⟨fa,fb,h3,h4,h5⟩:=hv
   exact ⟨fa,fb,h3,zGU hp hB a _ a' h1 h4,zGU hp hB b _ b' h2 h5⟩
  ·cases h
 | .ifc t y,v,x,h,hv=>by
  simp only [PV.toDB,Option.map_eq_some_iff] at h
  obtain ⟨z,h1,rfl⟩:=h
  simp only [VR,DR] at hv⊢
  obtain ⟨u,h2,h3⟩:=hv
  exact ⟨u,h2,zPv hp hB y u z h1 h3⟩
 | .tup xs,v,x,h,hv=>by simp [PV.toDB] at h
theorem zGU {bx:Tg→Option (List PV)} {pr:Nat→Prop} (hp:∀b,E.prot b∨Own E b→pr b) (hB:BxR E w bx):∀(ps:List PV) (vs:List Value) (xs:List D),PV.toDBL bx ps=some xs→VRs E w ps vs→DRs pr w xs vs
 | [],vs,xs,h,hv=>by
  simp only [PV.toDBL,Option.some.injEq] at h;subst h
  simpa only [VRs,DRs] using hv
 | p::ps,vs,xs,h,hv=>by
  simp only [PV.toDBL] at h
  split at h
  ·rename_i y ys h1 h2
   simp only [Option.some.injEq] at h;subst h
   simp only [VRs,DRs] at hv⊢
   obtain ⟨u,us,h3,h4,h5⟩:=hv
   exact ⟨u,us,h3,zPv hp hB p u y h1 h4,zGU hp hB ps us ys h2 h5⟩
  ·cases h
end
theorem StR.bxM (hs:StR E w st tmps):BxM E w st.box:=fun k l h hk=>by
 obtain ⟨b,o,vs,h1,h2,h3,h4⟩:=hs.bx k _ (zEd h)
 obtain ⟨es,clock,rfl,h5⟩:=h3.mp hk h4
 exact ⟨b,es,clock,h1,h2,h5⟩
theorem StR.bxV (hs:StR E w st tmps):BxV E w st.box:=fun k cs h hk=>by
 obtain ⟨b,o,vs,h1,h2,h3,h4⟩:=hs.bx k _ (zEd h)
 rcases h3 with ⟨hf,_⟩ | ⟨_,es,clock,rfl,rfl | ⟨l,rfl,_⟩⟩
 ·rw [hk] at hf;cases hf
 ·exact ⟨b,es,clock,h1,h2, .inl h4⟩
 ·exact ⟨b,es,clock,h1,h2, .inr (VRs.one h4)⟩
theorem StR.bxR (hs:StR E w st tmps):BxR E w st.box:=fun k cs h hk=>hs.bxc (zEd h) hk
def zFt (P:Program) (n f:Nat) (ps:List PV) (st:St) (K:PV→St→Prop):Prop:=
 ∃ds r,EvF P f ds r∧r.rok=true∧
  ((PV.toDBL st.box ps=some ds∧r.noLst∧K (r.mapT (zFl n)) (st.rebinds n r.tags))∨
   (PV.toDL ps=some ds∧K (r.mapT (zFl n)) ((st.frz (PV.tagsL ps)).rebinds n r.tags)))
theorem zQN (hv:zAm E w) (hs:StR E w st tmps) {n f:Nat} {ps:List PV} {vs:Array Value} (hp:VRs E w ps vs.toList) {K:PV→St→Prop} (h:zFt P n f ps st K):
  zIz P f∧Calls P f vs w fun e w'=>∃v E' p st',e= .returned v∧zAm E' w'∧VR E' w' p v∧StR E' w' st' tmps∧Step E w E' w'∧K p st':=by
 obtain ⟨ds,r,⟨hent,hev⟩,hrok,h⟩:=h
 refine ⟨hent, ?_⟩
 rcases h with ⟨h1,h2,h3⟩ | ⟨h1,h3⟩
 ·refine (hev (fun b=>E.prot b∨Own E b) w vs (fun b h=>h.elim (hv.prot_lt b) (fun h=>(hv.own_lt h).1)) (zGU (fun _ h=>h) hs.bxR ps _ ds h1 hp)).mono ?_
  rintro e w' ⟨v,E1,rfl,g1,g2,g3,g4,g5,g6⟩
  obtain ⟨k1,k2,k3,k4,k5,k6,k7⟩:=zJf hv hs n r.tags
  obtain ⟨j1,j2,j3,j4⟩:=zUH (n:=n) (ts:=r.tags) (pr:=(E.unbinds n r.tags).prot) k1 k2 (fun j hj=>(k4 j hj).1) g1 g3 g4 (fun _ h=>h) (fun _ h=> .inl h)
  refine ⟨v,_,_,_,rfl,j1, ?_,j2,k3.trans j3,h3⟩
  have g7:VR ⟨E1.row,E1.box,(E.unbinds n r.tags).prot⟩ w' r v:=VR.free (E:=E1) (E':=⟨E1.row,E1.box,(E.unbinds n r.tags).prot⟩) rfl rfl r v h2 g2
  exact zNe (E1:=⟨E1.row,E1.box,(E.unbinds n r.tags).prot⟩) (E2:=(E.unbinds n r.tags).join E1 n r.tags (E.unbinds n r.tags).prot) (ts:=r.tags) (fun _ h=>h) (fun j x hj hx=>by rw [j4 j hj];exact hx) r v (fun _ h=>h) hrok g7
 ·have hvf:=hv.frz (PV.tagsL ps)
  have hsf:=hs.frz hv (PV.tagsL ps)
  refine (hev (E.frz (PV.tagsL ps)).prot w vs (fun b h=>hvf.prot_lt b h) (zEI (pr:=(E.frz (PV.tagsL ps)).prot) (fun _ h=> .inl h) ps _ ds h1 (fun t h b o hr=> .inr ⟨t,h,o,hr⟩) hp)).mono ?_
  rintro e w' ⟨v,E1,rfl,g1,g2,g3,g4,g5,g6⟩
  obtain ⟨k1,k2,k3,k4,k5,k6,k7⟩:=zJf hvf hsf n r.tags
  obtain ⟨j1,j2,j3,j4⟩:=zUH (n:=n) (ts:=r.tags) (pr:=fun b=>(E.frz (PV.tagsL ps)).prot b∨(w.heap.size≤b∧E1.prot b)) k1 k2 (fun j hj=>(k4 j hj).1) g1 g3 g4 (fun b h=> .inl (by rw [k5] at h;exact h))
   (fun b h=>h.elim (fun h=> .inl (by rw [k5];exact h)) .inr)
  refine ⟨v,_,_,_,rfl,j1, ?_,j2,(Step.frz hv _).trans (k3.trans j3),h3⟩
  exact zNe (E1:=E1) (E2:=((E.frz (PV.tagsL ps)).unbinds n r.tags).join E1 n r.tags (fun b=>(E.frz (PV.tagsL ps)).prot b∨(w.heap.size≤b∧E1.prot b))) (ts:=r.tags) (fun b h=>(g6 b h).elim Or.inl (fun h'=>Or.inr ⟨h',h⟩)) (fun j x hj hx=>by rw [j4 j hj];exact hx) r v (fun _ h=>h) hrok g2
theorem VR.wide {pr:Nat→Prop} (h:∀b,E.prot b→pr b) {p:PV} {v:Value} (hv:VR E w p v):VR ⟨E.row,E.box,pr⟩ w p v:=
 VR.keep (E:=E) (E':=⟨E.row,E.box,pr⟩) (w:=w) (w':=w) p v ⟨h,fun _ _=>rfl,fun t _ r hr=>⟨hr,rfl⟩,fun t _ b hb=>hb⟩ hv
theorem VRs.wide {pr:Nat→Prop} (h:∀b,E.prot b→pr b) {ps:List PV} {vs:List Value} (hv:VRs E w ps vs):VRs ⟨E.row,E.box,pr⟩ w ps vs:=
 VRs.keep (E:=E) (E':=⟨E.row,E.box,pr⟩) (w:=w) (w':=w) ps vs ⟨h,fun _ _=>rfl,fun t _ r hr=>⟨hr,rfl⟩,fun t _ b hb=>hb⟩ hv
def argB (gs:List Tg) (ρ β:Nm) (a q:PV):Prop:=
 match q with
 | .d y=>a.toD=some y∧∀t∈a.tags,t∉gs
 | q=>PV.le ρ β a q
def zKu (gs:List Tg) (ρ β:Nm):List PV→List PV→Prop
 | [],[]=>True
 | a::as,q::qs=>argB gs ρ β a q∧zKu gs ρ β as qs
 | _,_=>False
def zF7:List (Tg×List PV)→Prop
 | []=>True
 | (_,cs)::r=>PV.noLstL cs∧zF7 r
theorem zOY {k:Tg} {cs:List PV}:∀{l:List (Tg×List PV)},zF7 l→(k,cs)∈l→PV.noLstL cs
 | [],_,h=>by simp at h
 | (e,x)::r,hg,h=>by
  simp only [zF7] at hg
  rcases List.mem_cons.1 h with h | h
  ·cases h;exact hg.1
  ·exact zOY hg.2 h
def upIn (ρ:List (Tg×Tg)) (bx:List (Tg×List PV)):Bool:=ρ.all fun x=> !x.1.isUp||bx.any fun y=>decide (y.1=x.1)
def zHt (P:Program) (n f:Nat) (A:St→Option (List PV)) (st:St) (K:PV→St→Prop):Prop:=
 ∃(ps:List PV) (bx:List (Tg×List PV)) (r:PV) (bx':List (Tg×List PV)) (ρ:List (Tg×Tg)) (F:List Tg) (as:List PV),EvG P f ps bx r bx'∧(ρ.map Prod.snd).Nodup∧upIn ρ bx=true∧r.gok ρ=true∧gokB ρ bx'=true∧
  A ((st.frz F).rebinds n (r.tags++zBh bx'))=some as∧leBx (gvR ρ) (gvB ρ) ((st.frz F).rebinds n (r.tags++zBh bx')) bx∧
  (PV.leL (gvR ρ) (gvB ρ) as ps∨(zKu (ρ.map Prod.snd) (gvR ρ) (gvB ρ) as ps∧r.noLst∧zF7 bx'))∧
  K (r.mapT (sgF ρ n)) (((st.frz F).rebinds n (r.tags++zBh bx')).give ρ n bx')
def zRT (P:Program) (n f:Nat) (args:List Opd) (st:St) (K:PV→St→Prop):Prop:=zHt P n f (fun s=>zA8 s.val args) st K
def zLs (f:Nat) (x:Opd) (args:List Opd) (st:St):Option (List PV):=match st.val x,zA8 st.val args with
 | some (.clo (.func g) a b),some ps=>if g=f then some (a++ps++b) else none
 | some (.d (.clo (.func g) a b)),some ps=>if g=f then some (a.map .d++ps++b.map .d) else none
 | _,_=>none
theorem zN1 {gs:List Tg} {ρ β:Nm} {pr:Nat→Prop} (hp:∀b,E.prot b→pr b) (hg:∀t b o,t∉gs→E.row t=some (b,o)→pr b):∀(as ps:List PV) (vs:List Value),zKu gs ρ β as ps→VRs E w as vs→VRs ⟨(E.re ρ β).row,(E.re ρ β).box,pr⟩ w ps vs
 | [],[],vs,h,hv=>by simpa only [VRs] using hv
 | a::as,q::qs,vs,h,hv=>by
  simp only [zKu] at h
  simp only [VRs] at hv⊢
  obtain ⟨u,us,h1,h2,h3⟩:=hv
  refine ⟨u,us,h1, ?_,zN1 hp hg as qs us h.2 h3⟩
  have hq:=h.1
  unfold argB at hq
  split at hq
  ·simp only [VR]
   exact zID (E:=E) hp a u _ hq.1 (fun t ht b o hr=>hg t b o (hq.2 t ht) hr) h2
  ·exact VR.wide (E:=E.re ρ β) hp (VR.le q a u hq h2)
 | [],_::_,vs,h,hv=>by simp only [zKu] at h
 | _::_,[],vs,h,hv=>by simp only [zKu] at h
theorem zId (hv:zAm E w) (hs:StR E w st tmps) {n f:Nat} {A:St→Option (List PV)} {vs:Array Value} (hargs:∀E st as,StR E w st tmps→A st=some as→VRs E w as vs.toList) {K:PV→St→Prop} (h:zHt P n f A st K):
  zIz P f∧Calls P f vs w fun e w'=>∃v E' p st',e= .returned v∧zAm E' w'∧VR E' w' p v∧StR E' w' st' tmps∧Step E w E' w'∧K p st':=by
 obtain ⟨ps,bx,r,bx',ρ,F,as,⟨hent,hev⟩,hnd,hup,hgr,hgb,has,hbx,hmode,hK⟩:=h
 refine ⟨hent, ?_⟩
 have hvf:=hv.frz F
 have hsf:=hs.frz hv F
 obtain ⟨k1,k2,k3,k4,k5,k6,k7⟩:=zJf hvf hsf n (r.tags++zBh bx')
 generalize hE2:(E.frz F).unbinds n (r.tags++zBh bx')=E2 at*
 generalize hS2:(st.frz F).rebinds n (r.tags++zBh bx')=st2 at*
 have hvs:=hargs E2 st2 as k2 has
 have mode:∃(pr1:Nat→Prop),(∀b,E2.prot b→pr1 b)∧(∀b,pr1 b→E2.prot b∨∃t o,t∉ρ.map Prod.snd∧E2.row t=some (b,o))∧VRs ⟨(E2.re (gvR ρ) (gvB ρ)).row,(E2.re (gvR ρ) (gvB ρ)).box,pr1⟩ w ps vs.toList∧
   ((∀b,pr1 b→E2.prot b)∨(r.noLst∧zF7 bx')):=by
  rcases hmode with hm | ⟨hm,hm2⟩
  ·exact ⟨E2.prot,fun _ h=>h,fun _ h=> .inl h,VRs.le ps as _ hm hvs, .inl fun _ h=>h⟩
  ·exact ⟨fun b=>E2.prot b∨∃t o,t∉ρ.map Prod.snd∧E2.row t=some (b,o),fun _ h=> .inl h,fun _ h=>h,zN1 (fun _ h=> .inl h) (fun t b o ht hr=> .inr ⟨t,o,ht,hr⟩) as ps _ hm hvs, .inr hm2⟩
 obtain ⟨pr1,m1,m2,m3,m4⟩:=mode
 have hv1':=k1.re (zYG hnd) (zY4 hnd)
 have hv1:zAm ⟨(E2.re (gvR ρ) (gvB ρ)).row,(E2.re (gvR ρ) (gvB ρ)).box,pr1⟩ w:=by
  refine ⟨fun t b o h=>⟨(hv1'.row_lt t b o h).1,fun hp=> ?_⟩,fun k b h=>⟨(hv1'.box_lt k b h).1,fun hp=> ?_⟩,hv1'.row_row,hv1'.box_box,hv1'.row_box,fun b hp=> ?_⟩
  ·rcases m2 b hp with hp | ⟨u,o',hu,hr⟩
   ·exact (hv1'.row_lt t b o h).2 hp
   ·obtain ⟨s,g1,g2⟩:=zWv (pr:=pr1) h
    have:=k1.row_row _ _ _ _ _ g2 hr;subst this;exact hu g1
  ·rcases m2 b hp with hp | ⟨u,o',hu,hr⟩
   ·exact (hv1'.box_lt k b h).2 hp
   ·obtain ⟨s,u',rfl,g1,g2⟩:=zWr (pr:=pr1) h
    exact k1.row_box _ _ _ _ hr g2
  ·rcases m2 b hp with hp | ⟨u,o',hu,hr⟩
   ·exact k1.prot_lt b hp
   ·exact (k1.row_lt _ _ _ hr).1
 have hlen:vs.size=ps.length:=by have:=m3.length;simpa using this
 have hs1:StR ⟨(E2.re (gvR ρ) (gvB ρ)).row,(E2.re (gvR ρ) (gvB ρ)).box,pr1⟩ w (zJ8 ps bx) vs:=by
  refine ⟨fun d p hm=> ?_,fun k qs hm=> ?_⟩
  ·obtain ⟨_,h2⟩:=zOr hm
   rw [Nat.sub_zero] at h2
   obtain ⟨u,h4,h5⟩:=m3.getElem? h2
   exact ⟨u,by simpa using h4,h5⟩
  ·obtain ⟨s,qs',g1,g2,g3,gm⟩:=zLz hbx hm
   obtain ⟨b,o,vs,j1,j2,j3,j5⟩:=k2.bx _ _ (zEd g2)
   exact ⟨b,o,vs,by simp only [Env.re,g1,Option.bind_some];exact j1,j2,j3.c gm,VRs.wide (E:=E2.re (gvR ρ) (gvB ρ)) m1 (VRs.le qs qs' _ g3 j5)⟩
 have hin:∀u s,zEv (.up u) ρ=some s→∃b,E2.box s=some b:=by
  intro u s hus
  have h1:=List.all_eq_true.1 hup _ (zGm hus)
  simp only [Tg.isUp,Bool.not_true,Bool.false_or,List.any_eq_true,decide_eq_true_eq] at h1
  obtain ⟨⟨k,qs⟩,h2,rfl⟩:=h1
  obtain ⟨s',qs',g1,g2,g3,_⟩:=zLz hbx h2
  obtain ⟨b,o,vs,j1,_⟩:=k2.bx _ _ (zEd g2)
  simp only [gvB,Tg.isUp,if_true] at g1
  rw [hus] at g1;cases g1
  exact ⟨b,j1⟩
 refine (hev _ w vs hv1 hs1 hlen).mono ?_
 rintro e w' ⟨v,E',rfl,g1,g2,g3⟩
 obtain ⟨u,g4,g5⟩:=g2.tm 0 r (by simp)
 simp at g4;subst g4
 have hbx2:StR E' w' ⟨[],bx'⟩ #[]:=⟨fun d p hm=>by simp at hm,g2.bx⟩
 have fin:∃pr2:Nat→Prop,(∀b,E2.prot b→pr2 b)∧(∀b,pr2 b→E2.prot b∨(E'.prot b∧(Own ⟨(E2.re (gvR ρ) (gvB ρ)).row,(E2.re (gvR ρ) (gvB ρ)).box,pr1⟩ b∨w.heap.size≤b)))∧
   VR ⟨E'.row,E'.box,pr2⟩ w' r v∧StR ⟨E'.row,E'.box,pr2⟩ w' ⟨[],bx'⟩ #[]:=by
  rcases m4 with m4 | ⟨m5,m6⟩
  ·refine ⟨E'.prot,fun b hb=>g3.prot b (m1 b hb),fun b hb=> ?_,g5,hbx2⟩
   rcases g3.prot' b hb with h | h
   ·exact .inl (m4 b h)
   ·exact .inr ⟨hb,h⟩
  ·refine ⟨E2.prot,fun _ h=>h,fun _ h=> .inl h,VR.free (E:=E') (E':=⟨E'.row,E'.box,E2.prot⟩) rfl rfl r v m5 g5,⟨fun d p hm=>by simp at hm,fun k cs hm=> ?_⟩⟩
   obtain ⟨b,o,vs,j1,j2,j3,j5⟩:=hbx2.bx k cs hm
   exact ⟨b,o,vs,j1,j2,j3,VRs.free (E:=E') (E':=⟨E'.row,E'.box,E2.prot⟩) rfl rfl cs _ (zOY m6 hm) j5⟩
 obtain ⟨pr2,f1,f2,f3,f4⟩:=fin
 obtain ⟨j1,j2,j3,j4⟩:=zYN (n:=n) (ts:=r.tags++zBh bx') k1 k2 (fun j hj=>k4 j hj) hin g1 g3 f1 (fun b hb=>g3.prot b (m1 b hb)) f2 hgb (fun t ht=>by simp [ht]) f4
 exact ⟨v,_,_,_,rfl,j1,j4 r v hgr (fun t ht=>by simp [ht]) f3,j2,((Step.frz hv F).trans k3).trans j3,hK⟩
def zFY (kk:IntKind) (n:Int) (z:PV) (K:PV→Bool→Prop):List PV→Prop
 | []=>K z false
 | .d (.int k' c)::p::r=>k'=kk∧(n=c→K p true)∧(n≠c→zFY kk n z K r)
 | _=>False
theorem zNJ {kk:IntKind} {n:Int} {z:PV} {K:PV→Bool→Prop}:∀{l:List MapEntry} {cs:List PV} {i:Nat},VRs E w cs (zCk l)→zFY kk n z K cs→
  (Instr.findNow (.int kk) (.int kk n) l i=some none∧K z false)∨∃j v p,Instr.findNow (.int kk) (.int kk n) l i=some (some (j,v))∧VR E w p v∧K p true
 | [],cs,i,h,hk=>by
  simp only [zCk,List.flatMap_nil] at h
  cases cs with
  | nil=>exact .inl ⟨rfl,hk⟩
  | cons p r=>simp [VRs] at h
 | e::l,cs,i,h,hk=>by
  match cs,h,hk with
  | [],h,hk=>simp [VRs,zCk] at h
  | [p],h,hk=>simp [VRs,zCk] at h
  | p::q::r,h,hk=>
   have hm:zCk (e::l)=e.key::e.val::zCk l:=rfl
   rw [hm] at h
   simp only [VRs] at h
   obtain ⟨u,us,h1,h2,u2,us2,h3,h4,h5⟩:=h
   simp only [List.cons.injEq] at h1
   obtain ⟨rfl,rfl⟩:=h1
   simp only [List.cons.injEq] at h3
   obtain ⟨rfl,rfl⟩:=h3
   unfold zFY at hk
   split at hk
   ·rename_i he;cases he
   ·rename_i k' c p' r' he
    simp only [List.cons.injEq] at he
    obtain ⟨rfl,rfl,rfl⟩:=he
    obtain ⟨rfl,ha,hb⟩:=hk
    simp only [VR,DR] at h2
    simp only [Instr.findNow,h2,Instr.sameNow,if_true]
    by_cases hcn:n=c
    ·subst hcn
     simp only [beq_self_eq_true]
     exact .inr ⟨i,e.val,q,rfl,h4,ha rfl⟩
    ·have:(n==c)=false:=by simpa using hcn
     rw [this]
     exact zNJ h5 (hb hcn)
   ·exact hk.elim
theorem zUd {t:TypeId} {x:D} (h:zJE P t=some x):∃i z,P.info? t=some i∧i.zero=some z∧VR E w (.d x) z:=by
 unfold zJE at h
 split at h
 ·rename_i i h1
  split at h
  ·rename_i cs h2
   simp only [Option.map_eq_some_iff] at h
   obtain ⟨ys,h3,rfl⟩:=h
   refine ⟨i,_,h1,h2, ?_⟩
   simp only [VR,DR]
   exact ⟨cs,rfl,zNn h3,zKv h3 _ _⟩
  ·rename_i v hn h2
   refine ⟨i,v,h1,h2, ?_⟩
   simp only [VR]
   exact (zLV h _ _).1
  ·cases h
 ·cases h
structure zMR (w w':World):Prop where
 os:w'.os=w.os
 tape:w'.tape=w.tape
 output:w'.output=w.output
 size:w.heap.size≤w'.heap.size
 drawn:w.drawn≤w'.drawn
 old:∀b,b<w.heap.size→w'.heap[b]? =w.heap[b]?
def Laid (E:Env) (w:World) (t:Tg) (sz off:Nat) (es:List D) (w1:World):Prop:=
 (es=[]∧w1=w)∨∃(b o:Nat) (c:Array Value) (el:TypeId) (fr:Nat×Nat) (ys:List Value),E.row t=some (b,o)∧w.heap[b]? =some (.cells c el fr)∧DRs E.prot w es ys∧(∀u∈ys,u.cells.size=sz)∧
  o+off*sz+es.length*sz≤c.size∧w1=setBlk w b (.cells (laid c (o+off*sz) (flat ys)) el fr)
def resI (k:Option Nat) (t:Tg) (sz off:Nat) (es:List D):PV:=match k with
 | none=> .tup []
 | some j=> .sl t sz off (es.take j)
def EvI (P:Program) (f sz:Nat) (es xs es':List D) (k:Option Nat):Prop:=
 zIz P f∧es'.length=es.length∧∀(E:Env) (w:World) (t:Tg) (off:Nat) (u:Value) (us:List Value) (vs:Array Value),zAm E w→VR E w (.sl t sz off es) u→DRs E.prot w xs us→vs.toList=u::us→
  Calls P f vs w fun e w'=>∃v w1,e= .returned v∧Laid E w t sz off es' w1∧zMR w1 w'∧VR E w' (resI k t sz off es') v
theorem zMR.quiet {w w':World} (h:zMR w w'):zD7 w w':=
 ⟨h.size,fun b c el fr hb=>by rw [h.old b (Array.getElem?_eq_some_iff.1 hb).1];exact hb,fun b es cl hb=>by rw [h.old b (Array.getElem?_eq_some_iff.1 hb).1];exact hb⟩
theorem zMR.step {E:Env} {w w':World} (h:zMR w w'):Step E w E w':=
 ⟨h.os,h.tape,h.output,h.size,h.drawn,fun b hb _=>h.old b hb,fun _ h=> .inl h,fun _ h=>h,fun _ h=> .inl h,fun _ _ h=>h⟩
theorem Laid.told {t:Tg} {sz off:Nat} {es:List D} {w1:World} (hv:zAm E w) (h:Laid E w t sz off es w1):
  zAm E w1∧(StR E w st tmps→StR E w1 (st.map (cpyF t sz off es.length es)) tmps)∧Step E w E w1:=by
 rcases h with ⟨rfl,rfl⟩ | ⟨b,o,c,el,fr,ys,h1,h2,h3,h4,h5,rfl⟩
 ·exact ⟨hv,fun hs=>hs.map (fun _ h=>h) (fun _ _=>rfl) (fun p v hl h=>zOZ hl h) (fun _ _ _ _ hb=>⟨hb,rfl⟩),Step.refl _ _⟩
 ·have hpb:=(hv.row_lt _ _ _ h1).2
  have hl:=h3.length
  refine ⟨hv.setBlk _ _,fun hs=> ?_,Step.setBlk hv _ (.inl ⟨_,_,h1⟩)⟩
  refine hs.map (fun _ h=>h) (fun q hq=>by rw [zAQ,if_neg (fun e=>by subst e;exact hpb hq)]) (fun p v hlf h=> ?_)
   (fun k cs hm b' hb'=>⟨hb',by rw [zAQ,if_neg (fun e=>by subst e;exact hv.row_box _ _ _ _ h1 hb')]⟩)
  have:=zRg (n:=es.length) hv h1 h2 h3 h4 h5 hlf h
  rwa [Nat.min_self,List.take_of_length_le (by omega)] at this
def zLt (P:Program) (f:Nat) (ps:List PV) (st:St) (K:PV→St→Prop):Prop:=
 ∃t sz off es as xs es' k,ps= .sl t sz off es::as∧EvI P f sz es xs es' k∧PV.toDL as=some xs∧PV.tagsL as=[]∧K (resI k t sz off es') (st.map (cpyF t sz off es'.length es'))
theorem zM0 (hv:zAm E w) (hs:StR E w st tmps) {f:Nat} {ps:List PV} {vs:Array Value} (hp:VRs E w ps vs.toList) {K:PV→St→Prop} (h:zLt P f ps st K):
  zIz P f∧Calls P f vs w fun e w'=>∃v E' p st',e= .returned v∧zAm E' w'∧VR E' w' p v∧StR E' w' st' tmps∧Step E w E' w'∧K p st':=by
 obtain ⟨t,sz,off,es,as,xs,es',k,rfl,⟨hent,hlen,hev⟩,h1,h2,h3⟩:=h
 refine ⟨hent, ?_⟩
 simp only [VRs] at hp
 obtain ⟨u,us,g1,g2,g3⟩:=hp
 refine (hev E w t off u us vs hv g2 (zEI (pr:=E.prot) (fun _ h=>h) as _ xs h1 (fun t ht b o hr=>by rw [h2] at ht;cases ht) g3) g1).mono ?_
 rintro e w' ⟨v,w1,rfl,k1,k2,k3⟩
 obtain ⟨j1,j2,j3⟩:=k1.told (st:=st) (tmps:=tmps) hv
 exact ⟨v,E,_,_,rfl,j1.calm k2.quiet,k3,(j2 hs).calm k2.quiet,j3.trans k2.step,h3⟩
def metF (P:Program) (t:TypeId) (m:String):Option (Nat×Bool):=match P.info? t with
 | some i=>match i.methods.find? (·.name==m) with
  | some r=>match r.path.toList,r.func with
   | [],some (f,b)=>some (f,b)
   | _,_=>none
  | none=>none
 | none=>none
def zZ3:TypeDesc→Bool
 | .pointer _=>true
 | _=>false
def invF (P:Program) (t:TypeId) (m:String) (bx:Tg→Option (List PV)) (x:PV):Option (Nat×PV):=match metF P t m with
 | some (f,b)=>match P.underlying t with
  | some (.pointer el)=>bif b then some (f,x) else match P.underlying el,P.info? el,x with
   | some u,some j, .ptr k 0=>bif k.isM||aggT u then none else match bx k with
    | some (c::_)=>some (f,c)
    | _=>none
   | _,_,_=>none
  | some u=>bif b then none else some (f,x)
  | none=>none
 | none=>none
theorem zPN {t:TypeId} {m:String} {bx:Tg→Option (List PV)} (hB:BxR E w bx) {x p0:PV} {u:Value} {f:Nat} (hx:VR E w x u) (h:invF P t m bx x=some (f,p0)):
  ∃v,(method (P.types.size+Made.depth) t u m).run P w= .ok (f,v) w∧VR E w p0 v:=by
 unfold invF at h
 split at h
 ·rename_i g b hm
  unfold metF at hm
  split at hm
  ·rename_i i hi
   split at hm
   ·rename_i r hr
    split at hm
    ·rename_i f' b' hp hf
     simp only [Option.some.injEq,Prod.mk.injEq] at hm
     obtain ⟨rfl,rfl⟩:=hm
     obtain ⟨k,hk⟩:∃k,P.types.size+Made.depth=k+1:=by
      have hd:0<Made.depth:=by decide
      exact ⟨P.types.size+Made.depth-1,by omega⟩
     rw [hk]
     have step:∀v,(receiverAt t (.val u) b' (if r.path.isEmpty=true then some ((m.splitOn ".").getLastD m) else none)).run P w= .ok v w→(method (k+1) t u m).run P w= .ok (f',v) w:=by
      intro v hv
      simp only [method,Sem.run_bind,zD8 hi,Result.andThen_ok,hr,hp,follow,Sem.run_pure,hf,hv]
     split at h
     ·rename_i el hu
      cases b' with
      | true=>
       simp only [cond_true,Option.some.injEq,Prod.mk.injEq] at h
       obtain ⟨rfl,rfl⟩:=h
       exact ⟨u,step u (by simp [receiverAt,run_underlying hu,Place.get]),hx⟩
      | false=>
       simp only [cond_false] at h
       split at h
       ·rename_i uu j k0 hue hie
        cases hc:(k0.isM||aggT uu) with
        | true=>rw [hc] at h;cases h
        | false=>
         rw [hc] at h
         simp only [cond_false] at h
         simp only [Bool.or_eq_false_iff] at hc
         split at h
         ·rename_i c cs hb
          simp only [Option.some.injEq,Prod.mk.injEq] at h
          obtain ⟨rfl,rfl⟩:=h
          simp only [VR] at hx
          obtain ⟨b,h3,rfl⟩:=hx
          rw [zFg hc.1] at step⊢
          obtain ⟨b',cc,el',fr,h4,h5,h6,h0,h7⟩:=hB _ _ hb hc.1
          rw [h3] at h4;cases h4
          simp only [VRs] at h7
          obtain ⟨v0,vs,h8,h9,_⟩:=h7
          refine ⟨v0,step v0 ?_,h9⟩
          have hcell:w.cell? ⟨b,0,none⟩=some v0:=by
           simp only [World.cell?,h5]
           have:cc[0]? =some v0:=by rw [←Array.getElem?_toList,h8];rfl
           simpa using this
          have hl:=zF2 (P:=P) hue hc.2 hcell
          have hw:∀name,(Builtin.ssaWrapNilChk_ #[t] t #[.pointer (some ⟨b,0,none⟩),strVal "",strVal name]).run P w= .ok (.pointer (some ⟨b,0,none⟩)) w:=fun _=>rfl
          have ha:(asAddr (.pointer (some ⟨b,0,none⟩))).run P w= .ok ⟨b,0,none⟩ w:=rfl
          cases hpe:r.path.isEmpty with
          | true=>simp only [receiverAt,Sem.run_bind,run_underlying hu,Result.andThen_ok,Place.get,Sem.run_pure,if_true,hw,ha,hl]
          | false=>simp only [receiverAt,Sem.run_bind,run_underlying hu,Result.andThen_ok,Place.get,Sem.run_pure,Bool.false_eq_true,if_false,ha,hl]
         ·cases h
       ·cases h
     ·rename_i uu hnp hu
      cases b' with
      | true=>cases h
      | false=>
       simp only [cond_false,Option.some.injEq,Prod.mk.injEq] at h
       obtain ⟨rfl,rfl⟩:=h
       refine ⟨u,step u ?_,hx⟩
       cases uu<;>first | (exact (hnp _ rfl).elim) | simp [receiverAt,run_underlying hu,Place.get]
     ·cases h
    ·cases hm
   ·cases hm
  ·cases hm
 ·cases h
def invA (P:Program) (f:Nat) (x:Opd) (m:String) (args:List Opd) (st:St):Option (List PV):=match st.val x,zA8 st.val args with
 | some (.ifc t px),some ps=>match invF P t m st.box px with
  | some (g,p0)=>if g=f then some (p0::ps) else none
  | none=>none
 | _,_=>none
def zCS (P:Program) (n:Nat) (ao:AOp) (st:St) (K:PV→St→Prop):Prop:=
 match ao with
 | .call f args=>(match zA8 st.val args with
  | some ps=>zFt P n f ps st K∨zLt P f ps st K
  | none=>False)∨zRT P n f args st K
 | .invk x m args=>match st.val x,zA8 st.val args with
  | some (.ifc t px),some ps=>match invF P t m st.box px with
   | some (f,p0)=>zFt P n f (p0::ps) st K∨zLt P f (p0::ps) st K∨zHt P n f (invA P f x m args) st K
   | none=>False
  | _,_=>False
 | .callv x args=>(match st.val x,zA8 st.val args with
  | some (.d (.clo (.func g) a b)),some ps=>zFt P n g (a.map .d++ps++b.map .d) st K
  | some (.clo (.func g) a b),some ps=>zFt P n g (a++ps++b) st K
  | _,_=>False)∨(match st.val x with
  | some (.clo (.func g) _ _)=>zHt P n g (zLs g x args) st K
  | _=>False)
 | .look kk z ok m k=>match st.val m,st.val k with
  | some (.ptr t _),some (.d (.int k' v))=>t.isM=true∧k'=kk∧match st.box t with
   | some cs=>zFY kk v (.d z) (fun p b=>K (if ok=true then .tup [p, .d (.bool b)] else p) st) cs
   | none=>False
  | _,_=>False
 | .bin op bt x y=>match zJ5 op bt (st.val x) (st.val y) with
  | some (e,es)=>(es≠[]→K (.d (.bool (!e))) st)∧(es=[]→∀b,K (.d (.bool b)) st)
  | none=>False
 | _=>False
def zAY (P:Program) (n:Nat) (ao:AOp) (st:St) (K:PV→St→Prop):Prop:=
 match rop ao st.val st.box with
 | some (c,v)=>c∧K v st
 | none=>match wop (16*n+15) ao st with
  | some (c,v,st')=>c∧K v st'
  | none=>zCS P n ao st K
theorem zKy {f:FuncId} {args:Array Operand} {ts:Array TypeId}:trOp P (.call ⟨.value (.func f),args,ts⟩)=(trOs args.toList).map (.call f):=rfl
theorem zJH {x : Operand} {args : Array Operand} {ts : Array TypeId} (hx : ∀ f, x ≠ .func f) : trOp P (.call ⟨.value x, args, ts⟩) = (match trO x, trOs args.toList with
      | some x', some as => some (.callv x' as)
      | _, _ => none) := by
  cases x <;> first | rfl | exact absurd rfl (hx _)
def AOp.isCall:AOp→Bool
 | .call _ _=>true
 | .callv _ _=>true
 | _=>false
theorem zUa {op:Op} {ao:AOp} (h:trOp P op=some ao) (hc:ao.isCall=true):∃x args ts,op= .call ⟨.value x,args,ts⟩:=by
 cases op with
 | call cl=>
  obtain ⟨callee,args,ts⟩:=cl
  cases callee with
  | value x=>exact ⟨x,args,ts,rfl⟩
  | builtin b=>
   exfalso
   cases b<;>simp only [trOp] at h<;>(repeat' split at h)<;>first | (cases h;done) | (simp only [Option.map_eq_some_iff,Option.some.injEq] at h;obtain ⟨_,_,rfl⟩:=h;cases hc;done) | (simp only [Option.some.injEq] at h;subst h;cases hc;done)
  | invoke x m=>
   exfalso
   simp only [trOp] at h
   split at h
   ·simp only [Option.some.injEq] at h;subst h;cases hc
   ·cases h
 | _=>
  exfalso
  simp only [trOp] at h
  (repeat' split at h)<;>first | (cases h;done) | (simp only [Option.map_eq_some_iff,Option.some.injEq] at h;obtain ⟨_,_,rfl⟩:=h;cases hc;done) | (simp only [Option.some.injEq] at h;subst h;cases hc;done)
def zJY (P:Program) (r:Result Next) (R:Value→World→Prop):Prop:=match r with
 | .ok (.value v) w'=>R v w'
 | .ok .skip w'=>R undef w'
 | .ok (.enter f args) w'=>Calls P f args w' fun e w''=>∃v,e= .returned v∧R v w''
 | _=>False
theorem zJY.wp {o:Oper} {a:Act} {R:Value→World→Prop} {next:Act→World→Prop} {Q:Exit→Act→World→Prop} (h:zJY P ((execOp a.eval o).run P w) R) (hn:∀u w',R u w'→next (a.put o.dst u) w'):o.wp P a w next Q:=by
 unfold Oper.wp
 generalize (execOp a.eval o).run P w=r at h⊢
 unfold zJY at h
 split at h
 ·exact hn _ _ h
 ·exact hn _ _ h
 ·simp only [Oper.upon]
  refine Calls.mono h ?_
  rintro e w'' ⟨v,rfl,h⟩
  exact hn _ _ h
 ·exact h.elim
theorem zLA (hv:zAm E w) {a:Act} (hs:StR E w st a.tmps) {n:Nat} {o:Oper} {ao:AOp} (ht:trOp P o.op=some ao) {K:PV→St→Prop} (h:zAY P n ao st K):
  zJY P ((execOp a.eval o).run P w) fun u w'=>∃E' p st',zAm E' w'∧VR E' w' p u∧StR E' w' st' a.tmps∧Step E w E' w'∧K p st':=by
 unfold zAY at h
 split at h
 ·rename_i c v hr
  obtain ⟨u,h1,h2⟩:=zMI (opdR hs) hs.bxR hs.bxM hs.bxV ht hr h.1
  rw [h1]
  exact ⟨E,v,st,hv,h2,hs,Step.refl _ _,h.2⟩
 ·split at h
  ·rename_i c v st' hr
   obtain ⟨u,w',E',h1,h2,h3,h4,h5⟩:=zQT (by omega) hv hs ht hr h.1
   rcases h1 with h1 | ⟨h1,rfl⟩
   ·rw [h1]
    exact ⟨E',v,st',h3,h2,h4,h5,h.2⟩
   ·rw [h1]
    exact ⟨E',v,st',h3,h2,h4,h5,h.2⟩
  ·have fin':∀f (vs:Array Value),(zIz P f∧Calls P f vs w fun e w'=>∃v E' p st',e= .returned v∧zAm E' w'∧VR E' w' p v∧StR E' w' st' a.tmps∧Step E w E' w'∧K p st')→(execOp a.eval o).run P w=(callFunc f vs).run P w→zJY P ((execOp a.eval o).run P w) fun u w'=>∃E' p st',zAm E' w'∧VR E' w' p u∧StR E' w' st' a.tmps∧Step E w E' w'∧K p st':=by
    intro f vs h12 h3
    obtain ⟨h4,h5⟩:=h12
    rw [h3,zS0 h4]
    refine Calls.mono h5 ?_
    rintro e w' ⟨v,E',p,st',rfl,g1,g2,g3,g4,g5⟩
    exact ⟨v,rfl,E',p,st',g1,g2,g3,g4,g5⟩
   have fin:∀f (vs:Array Value) ps,VRs E w ps vs.toList→zFt P n f ps st K→(execOp a.eval o).run P w=(callFunc f vs).run P w→zJY P ((execOp a.eval o).run P w) fun u w'=>∃E' p st',zAm E' w'∧VR E' w' p u∧StR E' w' st' a.tmps∧Step E w E' w'∧K p st':=
    fun f vs ps h1 h2 h3=>fin' f vs (zQN hv hs h1 h2) h3
   have hO:=opdR hs
   obtain ⟨dst,op,type,pos,after,guard⟩:=o
   simp only at ht
   by_cases hb:∃bop bt bx by',ao= .bin bop bt bx by'
   ·obtain ⟨bop,bt,bx,by',rfl⟩:=hb
    cases op with
    | binOp op t x y yt=>
     simp only [trOp] at ht
     split at ht
     ·simp only [Option.map_eq_some_iff,reduceCtorEq,and_false,exists_false] at ht
     ·simp only [Option.map_eq_some_iff,reduceCtorEq,and_false,exists_false] at ht
     ·rename_i u x' y' hna hnb h1 h2 h3
      simp only [Option.some.injEq,AOp.bin.injEq] at ht
      obtain ⟨rfl,rfl,rfl,rfl⟩:=ht
      simp only [zCS] at h
      split at h
      ·rename_i e es ha
       obtain ⟨b,g1,g2⟩:=zST (P:=P) (x:=x) (y:=y) h1 ha (fun p hp=>hO _ _ _ h2 hp) (fun p hp=>hO _ _ _ h3 hp)
       obtain ⟨z,g3,g4⟩:=zAF g1 (show VR E w (.d (.bool b)) (.bool b) by simp [VR,DR])
       rw [show (execOp a.eval ⟨dst, .binOp op t x y yt,type,pos,after,guard⟩).run P w= .ok (.value z) w from g3]
       refine ⟨E, .d (.bool b),st,hv,g4,hs,Step.refl _ _, ?_⟩
       by_cases hes:es=[]
       ·exact h.2 hes b
       ·rw [g2 hes];exact h.1 hes
      ·exact h.elim
     ·cases ht
    | call cl=>
     exfalso
     obtain ⟨callee,args,ts⟩:=cl
     cases callee with
     | value x=>
      by_cases hx:∃f,x= .func f
      ·obtain ⟨f,rfl⟩:=hx
       rw [zKy,Option.map_eq_some_iff] at ht
       obtain ⟨as,h1,h2⟩:=ht;cases h2
      ·rw [zJH (fun f e=>hx ⟨f,e⟩)] at ht
       split at ht<;>cases ht
     | builtin b=>
      cases b<;>simp only [trOp] at ht<;>(repeat' split at ht)<;>first | (cases ht;done) | (simp only [Option.map_eq_some_iff,Option.some.injEq] at ht;obtain ⟨_,_,hh⟩:=ht;cases hh;done) | (simp only [Option.some.injEq] at ht;cases ht;done)
     | invoke x m=>
      simp only [trOp] at ht
      split at ht
      ·simp only [Option.some.injEq] at ht;cases ht
      ·cases ht
    | _=>
     exfalso
     simp only [trOp] at ht
     (repeat' split at ht)<;>first | (cases ht;done) | (simp only [Option.map_eq_some_iff,Option.some.injEq] at ht;obtain ⟨_,_,hh⟩:=ht;cases hh;done) | (simp only [Option.some.injEq] at ht;cases ht;done)
   by_cases hl:∃kk z ok m k,ao= .look kk z ok m k
   ·obtain ⟨kk,z,ok,m,k,rfl⟩:=hl
    cases op with
    | lookup t x y ok'=>
     simp only [trOp] at ht
     split at ht
     ·rename_i q m' k' h1 h2 h3
      split at ht
      ·simp only [Option.some.injEq] at ht;cases ht
      split at ht
      ·rename_i z' h4
       split at ht
       ·simp only [Option.some.injEq] at ht;cases ht
       obtain ⟨kt,kk',et⟩:=q
       obtain ⟨hu,huk⟩:=zJB h1
       simp only [Option.some.injEq,AOp.look.injEq] at ht
       obtain ⟨rfl,rfl,rfl,rfl,rfl⟩:=ht
       simp only [zCS] at h
       split at h
       ·rename_i tg o' k0 n0 h5 h6
        obtain ⟨hM,rfl,h⟩:=h
        split at h
        ·rename_i cs h7
         have g1:=hO _ _ _ h2 h5
         have g2:=hO _ _ _ h3 h6
         simp only [VR,DR] at g1 g2
         obtain ⟨b,g4,g5⟩:=g1
         rw [zIK hM] at g5
         obtain ⟨b',ob,vs,q1,q2,q3,q4⟩:=hs.bx _ _ (zEd h7)
         rw [g4] at q1;cases q1
         rcases q3 with ⟨hf,_⟩ | ⟨_,es,clock,rfl,rfl | ⟨l',rfl,_⟩⟩
         ·rw [hM] at hf;cases hf
         rotate_left
         ·obtain ⟨p,rfl⟩:=VRs.one q4
          simp only [zFY] at h
         have hik:Go.MapKept.IsKey (.int k0) (.int k0 n0):=rfl
         have run:∀(r:Option (Nat×Value)),Instr.findNow (.int k0) (.int k0 n0) es.toList 0=some r→∀u p bb,(match r with | some (_,v)=>u=v∧bb=true | none=>(zeroValue et).run P w= .ok u w∧bb=false)→VR E w p u→
           K (if ok'=true then .tup [p, .d (.bool bb)] else p) st→zJY P ((execOp a.eval ⟨dst, .lookup t x y ok',type,pos,after,guard⟩).run P w) fun u w'=>∃E' p st',zAm E' w'∧VR E' w' p u∧StR E' w' st' a.tmps∧Step E w E' w'∧K p st':=by
          intro r hr u p bb hub hp hk
          have e1:(Instr.lookup t (a.eval x) (a.eval y) ok').run P w= .ok (if ok' then .tuple #[u, .bool bb] else u) w:=by
           simp only [Instr.lookup,Sem.run_bind,run_underlying hu,Result.andThen_ok,g5,g2,Go.MapKept.run_getObj_map q2,Sem.run_pure,Go.MapKept.run_checkKey huk hik,Go.MapKept.run_findKey huk hr]
           cases r with
           | none=>
            obtain ⟨z1,rfl⟩:=hub
            simp only [Sem.run_bind,z1,Result.andThen_ok,Sem.run_pure]
           | some jv=>
            obtain ⟨j,v⟩:=jv
            obtain ⟨rfl,rfl⟩:=hub
            simp only [Sem.run_bind,Sem.run_pure,Result.andThen_ok]
          have e2:(execOp a.eval ⟨dst, .lookup t x y ok',type,pos,after,guard⟩).run P w= .ok (.value (if ok' then .tuple #[u, .bool bb] else u)) w:=by
           simp only [execOp,Sem.run_bind,e1,Result.andThen_ok,Sem.run_pure]
          rw [e2]
          refine ⟨E,_,st,hv, ?_,hs,Step.refl _ _,hk⟩
          cases ok' with
          | false=>exact hp
          | true=>
           simp only [if_true,VR]
           exact ⟨_,rfl,by simp only [VRs];exact ⟨_,_,rfl,hp,_,_,rfl,by simp only [VR,DR],rfl⟩⟩
         rcases zNJ (i:=0) q4 h with ⟨h8,h9⟩ | ⟨j,v,p,h8,h9,h10⟩
         ·obtain ⟨i,zv,z1,z2,z3⟩:=zUd (E:=E) (w:=w) h4
          exact run none h8 zv (.d z') false ⟨zBJ z1 z2 w,rfl⟩ z3 h9
         ·exact run (some (j,v)) h8 v p true ⟨rfl,rfl⟩ h9 h10
        ·exact h.elim
       ·exact h.elim
      ·cases ht
     ·cases ht
    | call cl=>
     exfalso
     obtain ⟨callee,args,ts⟩:=cl
     cases callee with
     | value x=>
      by_cases hx:∃f,x= .func f
      ·obtain ⟨f,rfl⟩:=hx
       rw [zKy,Option.map_eq_some_iff] at ht
       obtain ⟨as,h1,h2⟩:=ht;cases h2
      ·rw [zJH (fun f e=>hx ⟨f,e⟩)] at ht
       split at ht<;>cases ht
     | builtin b=>
      cases b<;>simp only [trOp] at ht<;>(repeat' split at ht)<;>first | (cases ht;done) | (simp only [Option.map_eq_some_iff,Option.some.injEq] at ht;obtain ⟨_,_,hh⟩:=ht;cases hh;done) | (simp only [Option.some.injEq] at ht;cases ht;done)
     | invoke x m=>
      simp only [trOp] at ht
      split at ht
      ·simp only [Option.some.injEq] at ht;cases ht
      ·cases ht
    | _=>
     exfalso
     simp only [trOp] at ht
     (repeat' split at ht)<;>first | (cases ht;done) | (simp only [Option.map_eq_some_iff,Option.some.injEq] at ht;obtain ⟨_,_,hh⟩:=ht;cases hh;done) | (simp only [Option.some.injEq] at ht;cases ht;done)
   by_cases hi:∃x m args,ao= .invk x m args
   ·obtain ⟨x,m,args,rfl⟩:=hi
    cases op with
    | call cl=>
     obtain ⟨callee,cargs,ts⟩:=cl
     cases callee with
     | value x=>
      exfalso
      by_cases hx:∃f,x= .func f
      ·obtain ⟨f,rfl⟩:=hx
       rw [zKy,Option.map_eq_some_iff] at ht
       obtain ⟨as,h1,h2⟩:=ht;cases h2
      ·rw [zJH (fun f e=>hx ⟨f,e⟩)] at ht
       split at ht<;>cases ht
     | builtin b=>
      exfalso
      cases b<;>simp only [trOp] at ht<;>(repeat' split at ht)<;>first | (cases ht;done) | (simp only [Option.map_eq_some_iff,Option.some.injEq] at ht;obtain ⟨_,_,hh⟩:=ht;cases hh;done) | (simp only [Option.some.injEq] at ht;cases ht;done)
     | invoke xo m'=>
      simp only [trOp] at ht
      split at ht
      ·rename_i x' as h1 h2
       simp only [Option.some.injEq,AOp.invk.injEq] at ht
       obtain ⟨rfl,rfl,rfl⟩:=ht
       simp only [zCS] at h
       split at h
       ·rename_i tt px ps h3 h4
        split at h
        ·rename_i f p0 h5
         have g1:=hO _ _ _ h1 h3
         simp only [VR] at g1
         obtain ⟨u,g2,g3⟩:=g1
         obtain ⟨v,g4,g5⟩:=zPN hs.bxR g3 h5
         have g6:=zCZ hO h2 h4
         have run:(execOp a.eval ⟨dst, .call ⟨.invoke xo m',cargs,ts⟩,type,pos,after,guard⟩).run P w=(callFunc f (#[v]++cargs.map a.eval)).run P w:=by
          have e0:(#[Value.iface tt u]++cargs.map a.eval)[0]? =some (.iface tt u):=by rw [Array.getElem?_append_left (by simp)];rfl
          have e1:(#[Value.iface tt u]++cargs.map a.eval).extract 1 (#[Value.iface tt u]++cargs.map a.eval).size=cargs.map a.eval:=by
           apply Array.ext'
           simp [List.drop_succ_cons,List.take_of_length_le]
          have e2:(execOp a.eval ⟨dst, .call ⟨.invoke xo m',cargs,ts⟩,type,pos,after,guard⟩).run P w=(invoke (.fn (.method m') #[]) (#[.iface tt u]++cargs.map a.eval)).run P w:=by
           simp only [execOp,resolve,Sem.run_bind,Sem.run_pure,Result.andThen_ok,g2]
          rw [e2]
          simp only [invoke,e0,e1,callMethod,Sem.run_bind,run_program,Result.andThen_ok,g4]
         have vps:VRs E w (p0::ps) (#[v]++cargs.map a.eval).toList:=by
          simp only [Array.toList_append,VRs]
          exact ⟨v,_,rfl,g5,by simpa using g6⟩
         rcases h with h | h | h
         ·exact fin f _ (p0::ps) vps h run
         ·exact fin' f _ (zM0 hv hs vps h) run
         ·refine fin' f _ (zId hv hs (fun E1 st1 as1 k1 k2=> ?_) h) run
          unfold invA at k2
          split at k2
          ·rename_i tt' px' ps' h3' h4'
           split at k2
           ·rename_i f' p0' h5'
            split at k2
            ·rename_i hff;subst hff
             simp only [Option.some.injEq] at k2;subst k2
             have i1:=opdR k1 _ _ _ h1 h3'
             simp only [VR] at i1
             obtain ⟨u',i2,i3⟩:=i1
             rw [g2] at i2
             simp only [Value.iface.injEq] at i2
             obtain ⟨rfl,rfl⟩:=i2
             obtain ⟨v',i4,i5⟩:=zPN k1.bxR i3 h5'
             rw [g4] at i4
             simp only [Result.ok.injEq,Prod.mk.injEq,and_true,true_and] at i4
             subst i4
             have i6:=zCZ (opdR k1) h2 h4'
             simp only [Array.toList_append,VRs]
             exact ⟨v,_,rfl,i5,by simpa using i6⟩
            ·cases k2
           ·cases k2
          ·cases k2
        ·exact h.elim
       ·exact h.elim
      ·cases ht
    | _=>
     exfalso
     simp only [trOp] at ht
     (repeat' split at ht)<;>first | (cases ht;done) | (simp only [Option.map_eq_some_iff,Option.some.injEq] at ht;obtain ⟨_,_,hh⟩:=ht;cases hh;done) | (simp only [Option.some.injEq] at ht;cases ht;done)
   have hc:ao.isCall=true:=by
    unfold zCS at h
    split at h
    ·rfl
    ·exact absurd ⟨_,_,_,rfl⟩ hi
    ·rfl
    ·exact absurd ⟨_,_,_,_,_,rfl⟩ hl
    ·exact absurd ⟨_,_,_,_,rfl⟩ hb
    ·exact h.elim
   obtain ⟨x,cargs,ts,rfl⟩:=zUa ht hc
   have hform:(∃f args,x= .func f∧trOs cargs.toList=some args∧ao= .call f args)∨(∃x' args,trO x=some x'∧trOs cargs.toList=some args∧ao= .callv x' args):=by
    by_cases hx:∃f,x= .func f
    ·obtain ⟨f,rfl⟩:=hx
     rw [zKy,Option.map_eq_some_iff] at ht
     obtain ⟨as,h1,rfl⟩:=ht
     exact .inl ⟨f,as,rfl,h1,rfl⟩
    ·rw [zJH (fun f e=>hx ⟨f,e⟩)] at ht
     split at ht
     ·rename_i x' as h1 h2
      simp only [Option.some.injEq] at ht;subst ht
      exact .inr ⟨x',as,h1,h2,rfl⟩
     ·cases ht
   rcases hform with ⟨f,args,rfl,h1,rfl⟩ | ⟨x',args,h1,h2,rfl⟩
   ·simp only [zCS] at h
    rcases h with h | h
    ·split at h
     ·rename_i ps h3
      have h4:=zCZ hO h1 h3
      rcases h with h | h
      ·refine fin f (cargs.map a.eval) ps (by simpa using h4) h ?_
       simp [execOp,resolve,Act.eval,Deferred.ofValue,invoke]
      ·refine fin' f (cargs.map a.eval) (zM0 hv hs (by simpa using h4) h) ?_
       simp [execOp,resolve,Act.eval,Deferred.ofValue,invoke]
     ·exact h.elim
    ·refine fin' f (cargs.map a.eval) (zId hv hs (fun E1 st1 as g1 g2=> ?_) h) ?_
     ·have:=zCZ (opdR g1) h1 g2
      simpa using this
     ·simp [execOp,resolve,Act.eval,Deferred.ofValue,invoke]
   ·simp only [zCS] at h
    rcases h with h | h
    rotate_left
    ·split at h
     ·rename_i g fa fb h3
      have h5:=hO _ _ _ h1 h3
      simp only [VR] at h5
      obtain ⟨va,vb,h7,h8,h9⟩:=h5
      refine fin' g (va++cargs.map a.eval++vb) (zId hv hs (fun E1 st1 as g1 g2=> ?_) h) ?_
      ·unfold zLs at g2
       split at g2
       ·rename_i g' fa' fb' ps' j1 j2
        split at g2
        ·rename_i hgg;subst hgg
         simp only [Option.some.injEq] at g2;subst g2
         have i1:=opdR g1 _ _ _ h1 j1
         have i2:=zCZ (opdR g1) h2 j2
         simp only [VR] at i1
         obtain ⟨va',vb',i3,i4,i5⟩:=i1
         rw [h7] at i3
         simp only [Value.func.injEq,true_and] at i3
         obtain ⟨rfl,rfl⟩:=i3
         simp only [Array.toList_append]
         exact VRs.append (VRs.append i4 (by simpa using i2)) i5
        ·cases g2
       ·rename_i g' fa' fb' ps' j1 j2
        split at g2
        ·rename_i hgg;subst hgg
         simp only [Option.some.injEq] at g2;subst g2
         have i1:=opdR g1 _ _ _ h1 j1
         have i2:=zCZ (opdR g1) h2 j2
         simp only [VR,DR] at i1
         obtain ⟨va',vb',i3,i4,i5⟩:=i1
         rw [h7] at i3
         simp only [Value.func.injEq,true_and] at i3
         obtain ⟨rfl,rfl⟩:=i3
         simp only [Array.toList_append]
         exact VRs.append (VRs.append (zPE i4) (by simpa using i2)) (zPE i5)
        ·cases g2
       ·cases g2
      ·simp [execOp,resolve,h7,Deferred.ofValue,invoke]
     ·exact h.elim
    split at h
    ·rename_i g fa fb ps h3 h4
     have h5:=hO _ _ _ h1 h3
     have h6:=zCZ hO h2 h4
     simp only [VR,DR] at h5
     obtain ⟨va,vb,h7,h8,h9⟩:=h5
     refine fin g (va++cargs.map a.eval++vb) _ ?_ h ?_
     ·simp only [Array.toList_append]
      exact VRs.append (VRs.append (zPE h8) (by simpa using h6)) (zPE h9)
     ·simp [execOp,resolve,h7,Deferred.ofValue,invoke]
    ·rename_i g fa fb ps h3 h4
     have h5:=hO _ _ _ h1 h3
     have h6:=zCZ hO h2 h4
     simp only [VR] at h5
     obtain ⟨va,vb,h7,h8,h9⟩:=h5
     refine fin g (va++cargs.map a.eval++vb) _ ?_ h ?_
     ·simp only [Array.toList_append]
      exact VRs.append (VRs.append h8 (by simpa using h6)) h9
     ·simp [execOp,resolve,h7,Deferred.ofValue,invoke]
    ·exact h.elim
theorem zKK (hv:zAm E w) {a:Act} (hs:StR E w st a.tmps) {n:Nat} {o:Oper} {ao:AOp} (ht:trOp P o.op=some ao) {K:PV→St→Prop} (h:zAY P n ao st K) {next:Act→World→Prop} {Q:Exit→Act→World→Prop}
  (hn:∀u w' E' p st',zAm E' w'→VR E' w' p u→StR E' w' st' a.tmps→Step E w E' w'→K p st'→next (a.put o.dst u) w'):o.wp P a w next Q:=
 (zLA hv hs ht h).wp fun u w' ⟨E',p,st',h1,h2,h3,h4,h5⟩=>hn u w' E' p st' h1 h2 h3 h4 h5
end
end Go.Proofs.YtnmlihfpenjeiaaGreat.Abs
namespace Go.Proofs.YtnmlihfpenjeiaaGreat.Abs
open Go Go.RowKit
set_option linter.unusedVariables false
set_option linter.unusedSimpArgs false
structure zAo where
 dst:Option Nat
 guard:Option (Nat×Bool)
 n:Nat
 op:AOp
 deriving Inhabited
def zFO (ops:Array Oper):Option (Nat×Bool)→Option (Option (Nat×Bool))
 | none=>some none
 | some (j,b)=>match (ops[j]?).bind (·.dst) with
  | some t=>some (some (t,b))
  | none=>none
def zMX (P:Program) (N:Nat) (ops:Array Oper) (n:Nat) (o:Oper):Option zAo:=
 if o.dst.all (fun d=>decide (d<N))=true then
  match zFO ops o.guard,trOp P o.op with
  | some g,some a=>some ⟨o.dst,g,n,a⟩
  | _,_=>none
 else none
def zAT (P:Program) (N:Nat) (ops:Array Oper) (n:Nat):List Oper→Option (List zAo)
 | []=>some []
 | o::r=>match zMX P N ops n o,zAT P N ops (n+1) r with
  | some a,some as=>some (a::as)
  | _,_=>none
def St.lit (st:St) (t:Nat) (b:Bool):St:=st.put t (.d (.bool b))
def zBC (P:Program):List zAo→St→(St→Prop)→Prop
 | [],st,K=>K st
 | o::rest,st,K=>match o.guard with
  | none=>zAY P o.n o.op st fun v st'=>zBC P rest (st'.putO o.dst v) K
  | some (t,b)=>match st.get t with
   | some (.d (.bool g))=>(g=b→zAY P o.n o.op (st.lit t b) fun v st'=>zBC P rest (st'.putO o.dst v) K)∧(g= !b→zBC P rest ((st.lit t (!b)).putO o.dst (.tup [])) K)
   | some (.tup [])=>zBC P rest (st.putO o.dst (.tup [])) K
   | _=>False
structure Told (N:Nat) (E0:Env) (w0:World) (d0:List Deferred) (E:Env) (w:World) (st:St) (a:Act):Prop where
 size:a.tmps.size=N
 defers:a.defers=d0
 valid:zAm E w
 str:StR E w st a.tmps
 step:Step E0 w0 E w
section
variable {P:Program} {N:Nat}
theorem Told.put {E0:Env} {w0:World} {d0:List Deferred} {E E':Env} {w w':World} {st st':St} {a:Act} (h:Told N E0 w0 d0 E w st a) {dst:Option Nat} (hd:∀d,dst=some d→d<N) {u:Value} {v:PV}
  (h1:zAm E' w') (h2:VR E' w' v u) (h3:StR E' w' st' a.tmps) (h4:Step E w E' w'):Told N E0 w0 d0 E' w' (st'.putO dst v) (a.put dst u):=by
 cases dst with
 | none=>exact ⟨h.size,h.defers,h1,h3,h.step.trans h4⟩
 | some d=>
  refine ⟨by simp [Act.put,h.size],h.defers,h1, ?_,h.step.trans h4⟩
  exact h3.put (by rw [h.size];exact hd d rfl) h2
theorem zOt {E:Env} {w:World}:VR E w (.tup []) undef:=by simp only [VR];exact ⟨#[],rfl,by simp [VRs]⟩
theorem zH4 {E:Env} {w:World} {v:Value} (h:VR E w (.tup []) v):v=undef:=by
 simp only [VR,VRs] at h
 obtain ⟨arr,rfl,h⟩:=h
 have:arr= #[]:=by simpa using h
 rw [this];rfl
theorem Told.un {E0:Env} {w0:World} {d0:List Deferred} {E:Env} {w:World} {st:St} {a:Act} (h:Told N E0 w0 d0 E w st a) {dst:Option Nat} (hd:∀d,dst=some d→d<N):Told N E0 w0 d0 E w (st.putO dst (.tup [])) (a.put dst undef):=
 h.put hd h.valid zOt h.str (Step.refl _ _)
theorem StR.known {E:Env} {w:World} {st:St} {tmps:Array Value} (h:StR E w st tmps) {t:Nat} {u:Value} {p:PV} (ht:tmps[t]? =some u) (hp:VR E w p u):StR E w (st.put t p) tmps:=by
 refine ⟨fun d q hm=> ?_,h.bx⟩
 simp only [St.put] at hm
 rcases List.mem_cons.1 hm with hm | hm
 ·cases hm;exact ⟨u,ht,hp⟩
 ·exact h.tm d q (zLy hm).2
theorem Told.lit {E0:Env} {w0:World} {d0:List Deferred} {E:Env} {w:World} {st:St} {a:Act} (h:Told N E0 w0 d0 E w st a) {t:Nat} {b:Bool} (ht:a.tmps[t]? =some (.bool b)):Told N E0 w0 d0 E w (st.lit t b) a:=
 ⟨h.size,h.defers,h.valid,h.str.known ht (by simp [VR,DR]),h.step⟩
theorem zCe {ops:Array Oper} {n:Nat} {o:Oper} {ao:zAo} (h:zMX P N ops n o=some ao):
  (∀d,o.dst=some d→d<N)∧zFO ops o.guard=some ao.guard∧trOp P o.op=some ao.op∧ao.dst=o.dst:=by
 unfold zMX at h
 split at h
 ·rename_i hd
  split at h
  ·rename_i g a h1 h2
   simp only [Option.some.injEq] at h;subst h
   refine ⟨fun d hdd=> ?_,h1,h2,rfl⟩
   rw [hdd] at hd;simpa using hd
  ·cases h
 ·cases h
theorem zHw {ops:Array Oper} {o:Oper} {t:Nat} {b g:Bool} {a:Act} (h:zFO ops o.guard=some (some (t,b))) (ht:a.tmps[t]? =some (.bool g)):
  Region.wanted o (yielded ops a.tmps)=(g==b):=by
 unfold zFO at h
 split at h
 ·cases h
 ·rename_i j b' hg
  split at h
  ·rename_i t' ht'
   simp only [Option.some.injEq,Prod.mk.injEq] at h;obtain ⟨rfl,rfl⟩:=h
   simp only [Region.wanted,hg,yielded,ht',Option.bind_some,ht]
   simp
  ·cases h
theorem zE4 {ops:Array Oper} {o:Oper} {t:Nat} {b:Bool} {tmps:Array Value} (h:zFO ops o.guard=some (some (t,b))) (ht:tmps[t]? =some undef):Region.wanted o (yielded ops tmps)=false:=by
 unfold zFO at h
 split at h
 ·cases h
 ·rename_i j b' hg
  split at h
  ·rename_i t' ht'
   simp only [Option.some.injEq,Prod.mk.injEq] at h;obtain ⟨rfl,rfl⟩:=h
   simp only [Region.wanted,hg,yielded,ht',Option.bind_some,ht]
   rfl
  ·cases h
theorem zG4 {E0:Env} {w0:World} {d0:List Deferred} {ops:Array Oper} {Q:Exit→Act→World→Prop} {K:St→Prop} (hQ:∀E w st a,Told N E0 w0 d0 E w st a→K st→Q .normal a w):
  ∀(l:List Oper) (n:Nat) (al:List zAo),zAT P N ops n l=some al→∀(E:Env) (w:World) (st:St) (a:Act),Told N E0 w0 d0 E w st a→zBC P al st K→wpList P ops Q l a w
 | [],n,al,ht,E,w,st,a,h,hk=>by
  simp only [zAT,Option.some.injEq] at ht;subst ht
  exact hQ E w st a h hk
 | o::l,n,al,ht,E,w,st,a,h,hk=>by
  simp only [zAT] at ht
  split at ht
  ·rename_i ao as h1 h2
   simp only [Option.some.injEq] at ht;subst ht
   obtain ⟨g1,g2,g3,g4⟩:=zCe h1
   have go:∀st,Told N E0 w0 d0 E w st a→zAY P ao.n ao.op st (fun v st'=>zBC P as (st'.putO ao.dst v) K)→o.wp P a w (wpList P ops Q l) Q:=fun st h hs=>
    zKK h.valid h.str g3 hs fun u w' E' p st' k1 k2 k3 k4 k5=>
     zG4 hQ l (n+1) as h2 E' w' _ _ (by rw [g4];exact h.put g1 k1 k2 k3 k4) k5
   simp only [zBC] at hk
   split at hk
   ·rename_i hg
    rw [hg] at g2
    have hw:Region.wanted o (yielded ops a.tmps)=true:=by
     unfold zFO at g2
     split at g2
     ·rename_i hog;simp [Region.wanted,hog]
     ·split at g2<;>cases g2
    simp only [wpList,hw,if_true]
    exact .inl (go st h hk)
   ·rename_i t b hg
    rw [hg] at g2
    split at hk
    ·rename_i g hget
     obtain ⟨u,hu1,hu2⟩:=h.str.get hget
     simp only [VR,DR] at hu2;subst hu2
     have hw:=zHw g2 hu1
     simp only [wpList,hw]
     by_cases hgb:g=b
     ·subst hgb
      simp only [beq_self_eq_true,if_true]
      exact .inl (go _ (h.lit hu1) (hk.1 rfl))
     ·have:(g==b)=false:=by simpa using hgb
      simp only [this,Bool.false_eq_true,if_false]
      have hgn:g= !b:=by cases g<;>cases b<;>simp_all
      rw [hgn] at hu1
      refine zG4 hQ l (n+1) as h2 E w _ _ ((h.lit hu1).un g1) ?_
      rw [g4] at hk
      exact hk.2 hgn
    ·rename_i hget
     obtain ⟨u,hu1,hu2⟩:=h.str.get hget
     have:=zH4 hu2;subst this
     have hw:=zE4 g2 hu1
     simp only [wpList,hw,Bool.false_eq_true,if_false]
     rw [g4] at hk
     exact zG4 hQ l (n+1) as h2 E w _ _ (h.un g1) hk
    ·exact hk.elim
  ·cases ht
end
end Go.Proofs.YtnmlihfpenjeiaaGreat.Abs
namespace Go.Proofs.YtnmlihfpenjeiaaGreat.Abs
open Go Go.RowKit
set_option linter.unusedVariables false
set_option linter.unusedSimpArgs false
def AOp.isR:AOp→Bool
 | .convB .. =>false
 | .mark .. =>false
 | .halt=>false
 | .mkmap .. =>false
 | .insrt .. =>false
 | .look .. =>false
 | .alloc .. =>false
 | .box .. =>false
 | .bslice .. =>false
 | .mkS .. =>false
 | .store .. =>false
 | .app .. =>false
 | .appZ .. =>false
 | .copy .. =>false
 | .call .. =>false
 | .callv .. =>false
 | .invk .. =>false
 | _=>true
structure DIt where
 o:zAo
 sync:Bool
 stay:List zAo
 deriving Inhabited
def zEw (ops:Array Oper) (i:Nat):List Nat:=match ops[i]? with
 | some o=>(o.after.toList.filter (Region.binds .any)).map (·.on)
 | none=>[]
def ancs (ops:Array Oper):Nat→List (List Nat)
 | 0=>[]
 | k+1=>
  let as:=ancs ops k
  let ps:=zEw ops k
  as++[(ps++ps.flatMap fun p=>as.getD p []).eraseDups]
def zPA (ops:Array Oper) (x y:Oper):Bool:=match y.dst with
 | some d=> !(x.looksAt ops).contains d&&x.dst !=some d
 | none=>true
def zRF (ops:Array Oper) (x:Oper):Bool:=match x.dst with
 | some d=> !(x.looksAt ops).contains d
 | none=>true
def zRJ (ops:Array Oper) (tb:List (List Nat)) (i j:Nat) (sj:Bool):Bool:=match ops[i]?,ops[j]? with
 | some x,some y=>if (tb.getD j []).contains i then sj||zPA ops x y else x.apart ops y
 | _,_=>false
def zJg (ops:Array Oper) (tb:List (List Nat)):List (Nat×Bool)→Bool
 | []=>true
 | (i,s)::rest=>(rest.all fun q=> !(zEw ops i).contains q.1&&q.1 !=i&&(if s then (tb.getD q.1 []).contains i else zRJ ops tb i q.1 q.2))&&
  (s||((ops[i]?).map (zRF ops)).getD false)&&zJg ops tb rest
def zQi (ops:Array Oper) (ex:List (Nat×Nat)) (tb:List (List Nat)):Bool:=(List.range ops.size).all fun i=>
 (tb.getD i []).all fun j=>(zEw ops i).contains j||((zEw ops i).any fun p=>(tb.getD p []).contains j)||ex.any fun e=>e.2==i&&(e.1==j||(tb.getD e.1 []).contains j)
def zNk (ops:Array Oper):List Nat→List (Nat×Bool)→Bool
 | _,[]=>true
 | pl,(i,_)::r=>(zEw ops i).all pl.contains&&zNk ops (i::pl) r
def zPm (ops:Array Oper) (ex:List (Nat×Nat)) (tb:List (List Nat)) (ord:List (Nat×Bool)):Bool:=
 ord.length==ops.size&&(List.range ops.size).all (fun i=>(ord.map Prod.fst).contains i)&&ord.all (fun q=>decide (q.1<ops.size))&&zQi ops ex tb&&zJg ops tb ord&&Region.noSelect ops&&zNk ops [] ord&&decide (tb.length≤ops.size)
def zQC (ops:Array Oper) (sync:Nat→Bool):Nat→List Nat→List Nat→List (Nat×Bool)
 | 0,_,_=>[]
 | f+1,rem,done=>
  match rem.find? fun i=> !sync i&&(zEw ops i).all done.contains with
  | some i=>(i,false)::zQC ops sync f (rem.erase i) (i::done)
  | none=>match rem.find? fun i=>(zEw ops i).all done.contains with
   | some i=>(i,true)::zQC ops sync f (rem.erase i) (i::done)
   | none=>[]
def zSc (ops:Array Oper) (tb:List (List Nat)) (al:List zAo) (i:Nat):Bool:=
 match al[i]?,ops[i]? with
 | some a,some y=> !a.op.isR||(List.range ops.size).any fun j=>j !=i&&match ops[j]? with
  | some x=> !zPA ops x y&& !(tb.getD j []).contains i
  | none=>false
 | _,_=>true
def zDv (tb:List (List Nat)) (al:List zAo):List Nat→List (Nat×Bool)→List DIt
 | _,[]=>[]
 | pre,(i,s)::r=>⟨al.getD i default,s,if s then (pre.filter fun j=> !(tb.getD i []).contains j).map fun j=>al.getD j default else []⟩::zDv tb al (if s then pre else pre++[i]) r
def zH7 (P:Program) (ops:Array Oper) (al:List zAo):Option (List DIt):=
 let tb:=ancs ops ops.size
 let ord:=zQC ops (zSc ops tb al) ops.size (List.range ops.size) []
 if P.follows .mixedOrders&&zPm ops [] tb ord then some (zDv tb al [] ord) else none
def zIo (o:zAo) (st:St) (K:PV→Prop):Prop:=match rop o.op st.val st.box with
 | some (c,v)=>c∧K v
 | none=>False
def zJD (d:Nat) (p:PV):List (Nat×PV)→Prop
 | []=>True
 | (e,v)::r=>(d=e→v=p)∧zJD d p r
theorem zKn {d:Nat} {p q:PV}:∀{l:List (Nat×PV)},zJD d p l→(d,q)∈l→q=p
 | [],_,h=>by simp at h
 | (e,v)::r,h,hm=>by
  simp only [zJD] at h
  rcases List.mem_cons.1 hm with hm | hm
  ·cases hm;exact h.1 rfl
  ·exact zKn h.2 hm
def zMP (o:zAo) (st:St):Prop:=zIo o st fun v=>match o.dst with
 | some d=>zJD d v st.tm
 | none=>True
def Holds (o:zAo) (st:St):Prop:=match o.guard with
 | none=>zMP o st
 | some (t,b)=>match st.get t with
  | some (.d (.bool g))=>(g=b→zMP o st)∧(g= !b→match o.dst with
   | some d=>zJD d (.tup []) st.tm
   | none=>True)
  | some (.tup [])=>(match o.dst with
   | some d=>zJD d (.tup []) st.tm
   | none=>True)
  | _=>False
def zBT:List zAo→St→Prop
 | [],_=>True
 | o::r,st=>Holds o st∧zBT r st
def itK (P:Program) (it:DIt) (st:St) (K:St→Prop):Prop:=
 match it.sync with
 | true=>zAY P it.o.n it.o.op st fun v st'=>K (st'.putO it.o.dst v)
 | false=>zIo it.o st fun v=>K (st.putO it.o.dst v)
def zAV (P:Program):List DIt→St→(St→Prop)→Prop
 | [],st,K=>K st
 | it::rest,st,K=>match it.o.guard with
  | none=>itK P it st fun st2=>zBT it.stay st2∧zAV P rest st2 K
  | some (t,b)=>match st.get t with
   | some (.d (.bool g))=>(g=b→itK P it (st.lit t b) fun st2=>zBT it.stay st2∧zAV P rest st2 K)∧(g= !b→zBT it.stay ((st.lit t (!b)).putO it.o.dst (.tup []))∧zAV P rest ((st.lit t (!b)).putO it.o.dst (.tup [])) K)
   | some (.tup [])=>zBT it.stay (st.putO it.o.dst (.tup []))∧zAV P rest (st.putO it.o.dst (.tup [])) K
   | _=>False
section
variable {P:Program} {N:Nat}
theorem zEN {ops:Array Oper}:∀{l:List Oper} {n:Nat} {al:List zAo},zAT P N ops n l=some al→∀i o,l[i]? =some o→∃ao,al[i]? =some ao∧zMX P N ops (n+i) o=some ao
 | [],n,al,h,i,o,hi=>by simp at hi
 | x::l,n,al,h,i,o,hi=>by
  simp only [zAT] at h
  split at h
  ·rename_i a as h1 h2
   simp only [Option.some.injEq] at h;subst h
   cases i with
   | zero=>simp at hi;subst hi;exact ⟨a,by simp,h1⟩
   | succ i=>
    simp only [List.getElem?_cons_succ] at hi
    obtain ⟨ao,g1,g2⟩:=zEN h2 i o hi
    exact ⟨ao,by simpa using g1,by rw [show n+(i+1)=n+1+i from by omega];exact g2⟩
  ·cases h
theorem zIm {ops:Array Oper} {o:Oper} (h:zFO ops o.guard=some none) (tmps:Array Value):Region.wanted o (yielded ops tmps)=true:=by
 unfold zFO at h
 split at h
 ·rename_i hog;simp [Region.wanted,hog]
 ·split at h<;>cases h
def Prom (P:Program) (ops:Array Oper) (o:Oper) (as:Act) (w:World):Prop:=
 (Region.wanted o (yielded ops as.tmps)=true→∃u,(execOp as.eval o).run P w= .ok (.value u) w∧∀d,o.dst=some d→as.tmps[d]? =some u)∧
 (Region.wanted o (yielded ops as.tmps)=false→∀d,o.dst=some d→as.tmps[d]? =some undef)
theorem Prom.put {ops:Array Oper} {o:Oper} {as:Act} {w:World} (h:Prom P ops o as w) (hs:∀cs b,o.op≠ .select cs b) {dst:Option Nat} (u:Value) (h1:∀d,dst=some d→d∉o.looksAt ops) (h2:∀d,dst=some d→o.dst≠some d):Prom P ops o (as.put dst u) w:=by
 have he:=execOp_put (ops:=ops) o hs as dst u h1
 have hw:=wanted_put (ops:=ops) o as dst u h1
 have hg:∀d,o.dst=some d→(as.put dst u).tmps[d]? =as.tmps[d]? :=by
  intro d hd
  cases dst with
  | none=>rfl
  | some e=>
   have:e≠d:=fun h=>h2 e rfl (by rw [h];exact hd)
   simp [Act.put,Array.getElem?_setIfInBounds_ne this]
 refine ⟨fun h'=> ?_,fun h' d hd=> ?_⟩
 ·rw [hw] at h'
  obtain ⟨v,g1,g2⟩:=h.1 h'
  exact ⟨v,by rw [he];exact g1,fun d hd=>by rw [hg d hd];exact g2 d hd⟩
 ·rw [hw] at h'
  rw [hg d hd];exact h.2 h' d hd
theorem StR.fill {E:Env} {w:World} {st:St} {tmps:Array Value} (h:StR E w st tmps) {d:Nat} {u:Value} (hd:d<tmps.size) (hp:∀p,(d,p)∈st.tm→VR E w p u):StR E w st (tmps.setIfInBounds d u):=by
 refine ⟨fun e p hm=> ?_,h.bx⟩
 by_cases he:d=e
 ·subst he
  exact ⟨u,by simp [Array.getElem?_setIfInBounds,hd],hp p hm⟩
 ·obtain ⟨x,g1,g2⟩:=h.tm e p hm
  exact ⟨x,by rw [Array.getElem?_setIfInBounds_ne he];exact g1,g2⟩
end
end Go.Proofs.YtnmlihfpenjeiaaGreat.Abs
namespace Go.Proofs.YtnmlihfpenjeiaaGreat.Abs
open Go Go.RowKit
set_option linter.unusedVariables false
set_option linter.unusedSimpArgs false
structure Sim (P:Program) (N:Nat) (E0:Env) (w0:World) (d0:List Deferred) (ops:Array Oper) (tb:List (List Nat)) (dn:List (Nat×Bool)) (listed:Array Bool) (a:Act) (w:World) (as:Act) (E:Env) (st:St):Prop where
 told:Told N E0 w0 d0 E w st as
 sub:∀i,i<ops.size→listed.getD i true=true→i∈dn.map Prod.fst
 sync:∀i,(i,true)∈dn→listed.getD i true=true
 closed:∀i,i<ops.size→listed.getD i true=true→∀j∈tb.getD i [],listed.getD j true=true
 size:listed.size=ops.size
 tsz:a.tmps.size=as.tmps.size
 dfs:a.defers=as.defers
 same:∀d,(∀i o,i∈dn.map Prod.fst→listed.getD i true=false→ops[i]? =some o→o.dst≠some d)→as.tmps[d]? =a.tmps[d]?
 prom:∀i o,i∈dn.map Prod.fst→listed.getD i true=false→ops[i]? =some o→Prom P ops o as w
section
variable {P:Program} {N:Nat} {ops:Array Oper} {ex:List (Nat×Nat)} {tb:List (List Nat)} {al:List zAo} {ord dn todo:List (Nat×Bool)} {listed:Array Bool}
theorem zCg:∀{l1:List (Nat×Bool)} {i:Nat} {s:Bool} {l2:List (Nat×Bool)},zJg ops tb (l1++(i,s)::l2)=true→
  (∀q∈l2,q.1∉zEw ops i∧q.1≠i∧(s=true→i∈tb.getD q.1 [])∧(s=false→zRJ ops tb i q.1 q.2=true))∧(s=false→∃o,ops[i]? =some o∧zRF ops o=true)
 | [],i,s,l2,h=>by
  simp only [List.nil_append,zJg,Bool.and_eq_true,List.all_eq_true,Bool.or_eq_true] at h
  obtain ⟨⟨h1,h2⟩,_⟩:=h
  refine ⟨fun q hq=> ?_,fun hs=> ?_⟩
  ·have:=h1 q hq
   cases s
   ·simp only [Bool.and_eq_true,Bool.not_eq_true',bne_iff_ne,ne_eq,Bool.false_eq_true,if_false] at this
    refine ⟨fun hc=> ?_,this.1.2,fun h=>(by cases h),fun _=>this.2⟩
    have h3:=this.1.1;simp [hc] at h3
   ·simp only [Bool.and_eq_true,Bool.not_eq_true',bne_iff_ne,ne_eq,if_true] at this
    refine ⟨fun hc=> ?_,this.1.2,fun _=>by have:=this.2;simpa using this,fun h=>by cases h⟩
    have h3:=this.1.1;simp [hc] at h3
  ·subst hs
   rcases h2 with h2 | h2
   ·cases h2
   ·cases ho:ops[i]? with
    | none=>simp [ho] at h2
    | some o=>exact ⟨o,rfl,by simpa [ho] using h2⟩
 | q::l1,i,s,l2,h=>by
  obtain ⟨i',s'⟩:=q
  simp only [List.cons_append,zJg,Bool.and_eq_true] at h
  exact zCg h.2
theorem ahead:∀{l:List (Nat×Bool)} {p q:Nat×Bool},p∈l→q∈l→p≠q→(∃l1 l2,l=l1++p::l2∧q∈l2)∨(∃l1 l2,l=l1++q::l2∧p∈l2)
 | [],p,q,hp,_,_=>by simp at hp
 | x::l,p,q,hp,hq,hne=>by
  rcases List.mem_cons.1 hp with h1 | hp<;>rcases List.mem_cons.1 hq with h2 | hq
  ·exact absurd (h1.trans h2.symm) hne
  ·exact .inl ⟨[],l,by rw [h1];rfl,hq⟩
  ·exact .inr ⟨[],l,by rw [h2];rfl,hp⟩
  ·rcases ahead hp hq hne with ⟨l1,l2,h1,h2⟩ | ⟨l1,l2,h1,h2⟩
   ·exact .inl ⟨x::l1,l2,by rw [h1];rfl,h2⟩
   ·exact .inr ⟨x::l1,l2,by rw [h1];rfl,h2⟩
theorem zTS {x y:Oper} (h:zPA ops x y=true):∀d,y.dst=some d→d∉x.looksAt ops∧x.dst≠some d:=by
 intro d hd
 simp only [zPA,hd,Bool.and_eq_true,Bool.not_eq_true',bne_iff_ne,ne_eq] at h
 refine ⟨fun hc=> ?_,h.2⟩
 have:=h.1;simp [hc] at this
theorem zVa {x:Oper} (h:zRF ops x=true):∀d,x.dst=some d→d∉x.looksAt ops:=by
 intro d hd hc
 simp only [zRF,hd] at h
 simp [hc] at h
theorem zLP {i j:Nat} {sj:Bool} (h:zRJ ops tb i j sj=true) {x y:Oper} (hx:ops[i]? =some x) (hy:ops[j]? =some y):
  (i∈tb.getD j []∧(sj=true∨∀d,y.dst=some d→d∉x.looksAt ops∧x.dst≠some d))∨(i∉tb.getD j []∧x.apart ops y=true):=by
 unfold zRJ at h
 rw [hx,hy] at h
 simp only at h
 split at h
 ·rename_i hc
  refine .inl ⟨by simpa using hc, ?_⟩
  simp only [Bool.or_eq_true] at h
  exact h.imp id zTS
 ·rename_i hc
  exact .inr ⟨by simpa using hc,h⟩
theorem zPF {o:Oper} (hs:∀cs b,o.op≠ .select cs b) {a as:Act} (h:∀t∈o.looksAt ops,as.tmps[t]? =a.tmps[t]?):
  execOp a.eval o=execOp as.eval o∧Region.wanted o (yielded ops a.tmps)=Region.wanted o (yielded ops as.tmps):=by
 constructor
 ·refine execOp_congr o hs fun x hx=> ?_
  cases x with
  | tmp t=>
   have:=h t (List.mem_append_left _ (List.mem_filterMap.2 ⟨.tmp t,by simpa using hx,rfl⟩))
   simp only [Act.eval,Array.getD_eq_getD_getElem?,this]
  | _=>rfl
 ·unfold Region.wanted
  cases hg:o.guard with
  | none=>rfl
  | some gw=>
   obtain ⟨g,want⟩:=gw
   have hy:yielded ops a.tmps g=yielded ops as.tmps g:=by
    unfold yielded
    cases ht:(ops[g]?).bind (·.dst) with
    | none=>rfl
    | some t=>
     have:=h t (by simp [Oper.looksAt,hg,ht])
     simp [this]
   simp only [hy]
theorem zEh {i:Nat} (h:i∈Region.ready .any ops listed):i<ops.size∧listed.getD i true=false∧∀j∈zEw ops i,listed.getD j true=true:=by
 obtain ⟨h1,o,h2,h3⟩:=mem_ready.1 h
 refine ⟨(Array.getElem?_eq_some_iff.1 h2).1,h1,fun j hj=> ?_⟩
 simp only [zEw,h2,List.mem_map,List.mem_filter] at hj
 obtain ⟨e,⟨he,hb⟩,rfl⟩:=hj
 have:=h3 e (by simpa using he) hb
 simp only [Array.getD_eq_getD_getElem?] at this⊢
 cases hl:listed[e.on]? with
 | none=>simp
 | some v=>simpa [hl] using this
theorem zEp {ex:List (Nat×Nat)} (hc:zQi ops ex tb=true) {i:Nat} (hx:∀e∈ex,e.2=i→e.1<ops.size∧listed.getD e.1 true=true) (hi:i<ops.size) (hcl:∀i,i<ops.size→listed.getD i true=true→∀j∈tb.getD i [],listed.getD j true=true)
  (hp:∀j∈zEw ops i,listed.getD j true=true) (htb:∀p,ops.size≤p→tb.getD p []=[]):∀j∈tb.getD i [],listed.getD j true=true:=by
 intro j hj
 have:=List.all_eq_true.1 (List.all_eq_true.1 hc i (List.mem_range.2 hi)) j hj
 simp only [Bool.or_eq_true,List.any_eq_true,Bool.and_eq_true,beq_iff_eq] at this
 rcases this with (h | ⟨p,h1,h2⟩) | ⟨e,h1,h2,h3⟩
 ·exact hp j (by simpa using h)
 ·by_cases hps:p<ops.size
  ·exact hcl p hps (hp p h1) j (by simpa using h2)
  ·rw [htb p (by omega)] at h2;simp at h2
 ·obtain ⟨g1,g2⟩:=hx e h1 h2
  rcases h3 with rfl | h3
  ·exact g2
  ·exact hcl e.1 g1 g2 j (by simpa using h3)
structure zES (ops:Array Oper) (ex:List (Nat×Nat)) (tb:List (List Nat)) (ord:List (Nat×Bool)):Prop where
 cover:∀i,i<ops.size→i∈ord.map Prod.fst
 lt:∀q∈ord,q.1<ops.size
 closed:zQi ops ex tb=true
 ok:zJg ops tb ord=true
 sel:∀(i:Nat) (o:Oper) (cs:Array SelectCase) (b:Bool),ops[i]? =some o→o.op≠ .select cs b
 tbn:∀p,ops.size≤p→tb.getD p []=[]
 topo:zNk ops [] ord=true
theorem zTQ (hS:zES ops ex tb ord) {l1 l2:List (Nat×Bool)} {i j:Nat} {si:Bool} (ho:ord=l1++(j,false)::l2) (hi:(i,si)∈l2) {x y:Oper} (hx:ops[j]? =some x) (hy:ops[i]? =some y)
  (hj:j∉tb.getD i []):x.apart ops y=true:=by
 have h1:=hS.ok
 rw [ho] at h1
 have:=((zCg h1).1 _ hi).2.2.2 rfl
 rcases zLP this hx hy with ⟨h2,_⟩ | ⟨_,h2⟩
 ·exact absurd h2 hj
 ·exact h2
theorem zPc (hS:zES ops ex tb ord) {l1 l2:List (Nat×Bool)} {i j:Nat} (ho:ord=l1++(i,false)::l2) (hi:(j,false)∈l2) {x y:Oper} (hx:ops[i]? =some x) (hy:ops[j]? =some y):
  ∀d,y.dst=some d→d∉x.looksAt ops∧x.dst≠some d:=by
 have h1:=hS.ok
 rw [ho] at h1
 have:=((zCg h1).1 _ hi).2.2.2 rfl
 rcases zLP this hx hy with ⟨_,h2⟩ | ⟨_,h2⟩
 ·exact h2.resolve_left (by simp)
 ·obtain ⟨g1,g2,g3⟩:=Oper.apart_spec h2
  exact fun d hd=>⟨g3 d hd,fun hx'=>g2 d hx' hd⟩
theorem zES.self (hS:zES ops ex tb ord) {i:Nat} (hi:(i,false)∈ord) {x:Oper} (hx:ops[i]? =some x):∀d,x.dst=some d→d∉x.looksAt ops:=by
 obtain ⟨l1,l2,ho⟩:=List.append_of_mem hi
 have h1:=hS.ok
 rw [ho] at h1
 obtain ⟨o,h2,h3⟩:=(zCg h1).2 rfl
 rw [hx] at h2;cases h2
 exact zVa h3
theorem zFf {i:Nat} {l:List (Nat×Bool)} (h:i∈l.map Prod.fst):∃s,(i,s)∈l:=by
 obtain ⟨⟨j,s⟩,h1,h2⟩:=List.mem_map.1 h
 simp only at h2;subst h2;exact ⟨s,h1⟩
theorem zBX {listed:Array Bool} {i j:Nat}:(listed.setIfInBounds i true).getD j true=true↔listed.getD j true=true∨j=i:=by
 simp only [Array.getD_eq_getD_getElem?,Array.getElem?_setIfInBounds]
 by_cases h:i=j
 ·subst h
  by_cases h2:i<listed.size<;>simp [h2]
 ·simp only [h,if_false]
  constructor
  ·exact .inl
  ·rintro (h' | h')
   ·exact h'
   ·exact absurd h'.symm h
theorem zDc {listed:Array Bool} {i j:Nat}:(listed.setIfInBounds i true).getD j true=false↔listed.getD j true=false∧j≠i:=by
 have:=zBX (listed:=listed) (i:=i) (j:=j)
 cases h1:(listed.setIfInBounds i true).getD j true<;>cases h2:listed.getD j true<;>simp [h1,h2] at this⊢<;>exact this
theorem Act.put_get (a:Act) (dst:Option Nat) (u:Value) (d:Nat):(a.put dst u).tmps[d]? =if dst=some d∧d<a.tmps.size then some u else a.tmps[d]? :=by
 cases dst with
 | none=>simp [Act.put]
 | some e=>
  simp only [Act.put,Array.getElem?_setIfInBounds,Option.some.injEq]
  by_cases h:e=d
  ·subst h
   by_cases h2:e<a.tmps.size<;>simp [h2]
  ·simp [h]
variable {E0 E:Env} {w0 w:World} {d0:List Deferred} {a as:Act} {st:St}
theorem Sim.agrees (hS:zES ops ex tb ord) (h:Sim P N E0 w0 d0 ops tb dn listed a w as E st) (hdn:∃r,ord=dn++r) {i:Nat} (hX:∀e∈ex,e.2=i→e.1<ops.size∧listed.getD e.1 true=true) {si:Bool} (hi:(i,si)∈ord) (hr:i∈Region.ready .any ops listed) (hsi:si=false∨i∉dn.map Prod.fst)
  {x:Oper} (hx:ops[i]? =some x):
  (∀j y,j∈dn.map Prod.fst→listed.getD j true=false→j≠i→ops[j]? =some y→∀d,y.dst=some d→d∉x.looksAt ops∧x.dst≠some d)∧(∀t∈x.looksAt ops,as.tmps[t]? =a.tmps[t]?):=by
 obtain ⟨hlt,hun,hpr⟩:=zEh hr
 have hcl:=zEp hS.closed hX hlt h.closed hpr hS.tbn
 obtain ⟨r,hord⟩:=hdn
 have key:∀j y,j∈dn.map Prod.fst→listed.getD j true=false→j≠i→ops[j]? =some y→∀d,y.dst=some d→d∉x.looksAt ops∧x.dst≠some d:=by
  intro j y hj hju hne hy d hd
  obtain ⟨s,hjs⟩:=zFf hj
  have hs:s=false:=by
   cases s with
   | false=>rfl
   | true=>have:=h.sync j hjs;rw [this] at hju;cases hju
  subst hs
  have hjo:(j,false)∈ord:=by rw [hord];exact List.mem_append_left _ hjs
  rcases ahead hjo hi (by intro e;cases e;exact hne rfl) with ⟨l1,l2,h1,h2⟩ | ⟨l1,l2,h1,h2⟩
  ·have hap:=zTQ hS h1 h2 hy hx (fun hc=>by have:=hcl j hc;rw [this] at hju;cases hju)
   obtain ⟨g1,g2,g3⟩:=Oper.apart_spec hap
   exact ⟨g1 d hd,g2 d hd⟩
  ·rcases hsi with rfl | hni
   ·exact zPc hS h1 h2 hx hy d hd
   ·
    exfalso
    have hok:=hS.ok
    rw [h1] at hok
    obtain ⟨q1,q2⟩:=zCg hok
    have:(i,si)∈dn:=by
     rw [hord] at h1
     rcases List.append_eq_append_iff.1 h1 with ⟨as',e1,e2⟩ | ⟨cs',e1,e2⟩
     ·
      exfalso
      have hj1:(j,false)∈l1:=by rw [e1];exact List.mem_append_left _ hjs
      obtain ⟨m1,m2,hm⟩:=List.append_of_mem hj1
      have hok2:=hS.ok
      rw [hord,h1,hm] at hok2
      simp only [List.append_assoc,List.cons_append] at hok2
      exact ((zCg hok2).1 (j,false) (by simp [h2])).2.1 rfl
     ·cases cs' with
      | nil=>
       exfalso
       simp only [List.append_nil] at e1
       have hj1:(j,false)∈l1:=by rw [←e1];exact hjs
       obtain ⟨m1,m2,hm⟩:=List.append_of_mem hj1
       have hok2:=hS.ok
       rw [hord,h1,hm] at hok2
       simp only [List.append_assoc,List.cons_append] at hok2
       exact ((zCg hok2).1 (j,false) (by simp [h2])).2.1 rfl
      | cons c cs'=>
       simp only [List.cons_append,List.cons.injEq] at e2
       rw [e1,←e2.1];simp
    exact hni (List.mem_map_of_mem (f:=Prod.fst) this)
 refine ⟨key,fun t ht=>h.same t fun j o hj hju ho hd=> ?_⟩
 by_cases hne:j=i
 ·subst hne
  rw [hx] at ho;cases ho
  rcases hsi with rfl | hni
  ·exact hS.self hi hx t hd ht
  ·exact hni hj
 ·exact (key j o hj hju hne ho t hd).1 ht
theorem Sim.pick (hS:zES ops ex tb ord) (h:Sim P N E0 w0 d0 ops tb dn listed a w as E st) (hdn:∃r,ord=dn++r) {i:Nat} (hX:∀e∈ex,e.2=i→e.1<ops.size∧listed.getD e.1 true=true) (hi:(i,false)∈dn) (hr:i∈Region.ready .any ops listed) (hN:∀(i:Nat) (o:Oper),ops[i]? =some o→∀d,o.dst=some d→d<N)
  {K:Act→World→Prop} {Q:Exit→Act→World→Prop} (hK:∀a',Sim P N E0 w0 d0 ops tb dn (listed.setIfInBounds i true) a' w as E st→K a' w):wpOp P ops Q i K a w:=by
 obtain ⟨hlt,hun,hpr⟩:=zEh hr
 have hcl:=zEp hS.closed hX hlt h.closed hpr hS.tbn
 have hio:(i,false)∈ord:=by obtain ⟨r,hr⟩:=hdn;rw [hr];exact List.mem_append_left _ hi
 have him:i∈dn.map Prod.fst:=List.mem_map_of_mem (f:=Prod.fst) hi
 obtain ⟨x,hx⟩:∃x,ops[i]? =some x:=⟨ops[i],Array.getElem?_eq_getElem hlt⟩
 obtain ⟨hkey,hag⟩:=h.agrees hS hdn hX hio hr (.inl rfl) hx
 obtain ⟨he,hw⟩:=zPF (hS.sel i x · · hx) hag
 obtain ⟨p1,p2⟩:=h.prom i x him hun hx
 have next:∀u,(∀d,x.dst=some d→as.tmps[d]? =some u)→Sim P N E0 w0 d0 ops tb dn (listed.setIfInBounds i true) (a.put x.dst u) w as E st:=by
  intro u hu
  refine ⟨h.told,fun j hj hl=> ?_,fun j hj=>zBX.2 (.inl (h.sync j hj)),fun j hj hl k hk=> ?_,by simp [h.size], ?_, ?_,fun d hd=> ?_,fun j o hj hl ho=> ?_⟩
  ·rcases zBX.1 hl with hl | rfl
   ·exact h.sub j hj hl
   ·exact him
  ·rcases zBX.1 hl with hl | rfl
   ·exact zBX.2 (.inl (h.closed j hj hl k hk))
   ·exact zBX.2 (.inl (hcl k hk))
  ·have:=h.tsz;cases hx':x.dst<;>simpa [Act.put,hx'] using this
  ·have:=h.dfs;cases hx':x.dst<;>simpa [Act.put,hx'] using this
  ·rw [Act.put_get]
   split
   ·rename_i hc;exact hu d hc.1
   ·rename_i hc
    refine h.same d fun j o hj hl ho hod=> ?_
    by_cases hji:j=i
    ·subst hji
     rw [hx] at ho;cases ho
     exact hc ⟨hod,by rw [h.tsz,h.told.size];exact hN j x hx d hod⟩
    ·exact hd j o hj (zDc.2 ⟨hl,hji⟩) ho hod
  ·exact h.prom j o hj (zDc.1 hl).1 ho
 unfold wpOp
 simp only [hx]
 cases hwt:Region.wanted x (yielded ops as.tmps) with
 | true=>
  obtain ⟨u,g1,g2⟩:=p1 hwt
  rw [hw,hwt,if_pos rfl]
  refine .inl ?_
  unfold Oper.wp
  rw [he,g1]
  exact hK _ (next u g2)
 | false=>
  rw [hw,hwt,if_neg (by simp)]
  exact hK _ (next undef (p2 hwt))
theorem zNR {o:Oper} {ao:zAo} (ht:trOp P o.op=some ao.op) (hv:zAm E w) (hs:StR E w st as.tmps) {K:PV→Prop} (h:zIo ao st K):∃u p,(execOp as.eval o).run P w= .ok (.value u) w∧VR E w p u∧K p:=by
 unfold zIo at h
 split at h
 ·rename_i c v hr
  obtain ⟨u,h1,h2⟩:=zMI (opdR hs) hs.bxR hs.bxM hs.bxV ht hr h.1
  exact ⟨u,v,h1,h2,h.2⟩
 ·exact h.elim
theorem Prom.same {x:Oper} {a1 a2:Act} (hs:∀cs b,x.op≠ .select cs b) (h:Prom P ops x a1 w) (h1:∀t∈x.looksAt ops,a1.tmps[t]? =a2.tmps[t]?) (h2:∀d,x.dst=some d→a2.tmps[d]? =a1.tmps[d]?):Prom P ops x a2 w:=by
 obtain ⟨he,hw⟩:=zPF hs h1
 refine ⟨fun h'=> ?_,fun h' d hd=> ?_⟩
 ·rw [hw] at h'
  obtain ⟨v,g1,g2⟩:=h.1 h'
  exact ⟨v,by rw [he];exact g1,fun d hd=>by rw [h2 d hd];exact g2 d hd⟩
 ·rw [hw] at h'
  rw [h2 d hd];exact h.2 h' d hd
theorem Told.fill {x:Oper} (h:Told N E0 w0 d0 E w st as) (hN:∀d,x.dst=some d→d<N) {u:Value} (hu:∀d,x.dst=some d→∀p,(d,p)∈st.tm→VR E w p u):Told N E0 w0 d0 E w st (as.put x.dst u):=by
 cases hd:x.dst with
 | none=>exact h
 | some d=>exact ⟨by simp [Act.put,h.size],h.defers,h.valid,h.str.fill (by rw [h.size];exact hN d hd) (hu d hd),h.step⟩
theorem zE3 {x:Oper} {u:Value} (hs:∀d,x.dst=some d→d<as.tmps.size):∀d,x.dst=some d→(as.put x.dst u).tmps[d]? =some u:=by
 intro d hd
 rw [Act.put_get,if_pos ⟨hd,hs d hd⟩]
theorem zWI {x:Oper} {ao:zAo} {m:Nat} (ht:zMX P N ops m x=some ao) (hself:∀d,x.dst=some d→d∉x.looksAt ops) (hsel:∀cs b,x.op≠ .select cs b) (h:Told N E0 w0 d0 E w st as) (hh:Holds ao st):
  ∃u,Told N E0 w0 d0 E w st (as.put x.dst u)∧Prom P ops x (as.put x.dst u) w:=by
 obtain ⟨g1,g2,g3,g4⟩:=zCe ht
 have hsz:∀d,x.dst=some d→d<as.tmps.size:=fun d hd=>by rw [h.size];exact g1 d hd
 have read:zMP ao st→Region.wanted x (yielded ops as.tmps)=true→∃u,Told N E0 w0 d0 E w st (as.put x.dst u)∧Prom P ops x (as.put x.dst u) w:=by
  intro hr hw
  obtain ⟨u,p,k1,k2,k3⟩:=zNR g3 h.valid h.str hr
  refine ⟨u,h.fill g1 fun d hd q hq=> ?_,fun _=>⟨u, ?_,zE3 hsz⟩,fun h'=> ?_⟩
  ·rw [g4,hd] at k3
   rw [zKn k3 hq];exact k2
  ·rw [execOp_put (ops:=ops) x hsel as x.dst u hself];exact k1
  ·rw [wanted_put (ops:=ops) x as x.dst u hself,hw] at h';cases h'
 unfold Holds at hh
 split at hh
 ·rename_i hg
  rw [hg] at g2
  exact read hh (zIm g2 _)
 ·rename_i t b hg
  rw [hg] at g2
  split at hh
  ·rename_i g hget
   obtain ⟨gv,hu1,hu2⟩:=h.str.get hget
   simp only [VR,DR] at hu2;subst hu2
   have hw:=zHw g2 hu1
   by_cases hgb:g=b
   ·exact read (hh.1 hgb) (by rw [hw];simpa using hgb)
   ·have hno:=hh.2 (by cases g<;>cases b<;>simp_all)
    have hwf:Region.wanted x (yielded ops as.tmps)=false:=by rw [hw];simpa using hgb
    refine ⟨undef,h.fill g1 fun d hd q hq=> ?_,fun h'=> ?_,fun _=>zE3 hsz⟩
    ·rw [g4,hd] at hno
     rw [zKn hno hq];exact zOt
    ·rw [wanted_put (ops:=ops) x as x.dst undef hself,hwf] at h';cases h'
  ·rename_i hget
   obtain ⟨gv,hu1,hu2⟩:=h.str.get hget
   have:=zH4 hu2;subst this
   have hwf:=zE4 g2 hu1
   refine ⟨undef,h.fill g1 fun d hd q hq=> ?_,fun h'=> ?_,fun _=>zE3 hsz⟩
   ·rw [g4,hd] at hh
    rw [zKn hh hq];exact zOt
   ·rw [wanted_put (ops:=ops) x as x.dst undef hself,hwf] at h';cases h'
  ·exact hh.elim
def Late (ops:Array Oper) (j k:Nat):Prop:=∀x y,ops[j]? =some x→ops[k]? =some y→∀d,y.dst=some d→d∉x.looksAt ops∧x.dst≠some d
theorem zWa {n:Nat} (hal:zAT P N ops n ops.toList=some al) (hsel:∀(i:Nat) (o:Oper) (cs:Array SelectCase) (b:Bool),ops[i]? =some o→o.op≠ .select cs b):∀(js:List Nat) (as:Act),js.Pairwise (Late ops)→(∀j∈js,∃x,ops[j]? =some x∧(∀d,x.dst=some d→d∉x.looksAt ops)∧Holds (al.getD j default) st)→
  Told N E0 w0 d0 E w st as→∃as2,Told N E0 w0 d0 E w st as2∧(∀d,(∀j∈js,∀x,ops[j]? =some x→x.dst≠some d)→as2.tmps[d]? =as.tmps[d]?)∧∀j∈js,∀x,ops[j]? =some x→Prom P ops x as2 w
 | [],as,hp,hh,hT=>⟨as,hT,fun _ _=>rfl,fun j hj=>by simp at hj⟩
 | j::js,as,hp,hh,hT=>by
  rw [List.pairwise_cons] at hp
  obtain ⟨x,h1,h2,h3⟩:=hh j (by simp)
  obtain ⟨ao,k1,k2⟩:=zEN hal j x (by simpa using h1)
  have hao:al.getD j default=ao:=by simp [k1]
  rw [hao] at h3
  obtain ⟨u,g1,g2⟩:=zWI k2 h2 (hsel j x · · h1) hT h3
  obtain ⟨as2,q1,q2,q3⟩:=zWa hal hsel js (as.put x.dst u) hp.2 (fun i hi=>hh i (by simp [hi])) g1
  refine ⟨as2,q1,fun d hd=> ?_,fun i hi y hy=> ?_⟩
  ·rw [q2 d fun i hi y hy=>hd i (by simp [hi]) y hy,Act.put_get,if_neg]
   rintro ⟨hx,_⟩;exact hd j (by simp) x h1 hx
  ·rcases List.mem_cons.1 hi with rfl | hi
   ·rw [h1] at hy;cases hy
    refine g2.same (hsel i x · · h1) (fun t ht=> ?_) fun d hd=> ?_
    ·exact (q2 t fun k hk y hy hyd=>(hp.1 k hk x y h1 hy t hyd).1 ht).symm
    ·exact q2 d fun k hk y hy hyd=>(hp.1 k hk x y h1 hy d hyd).2 hd
   ·exact q3 i hi y hy
def reads (l:List (Nat×Bool)):List Nat:=(l.filter fun q=> !q.2).map Prod.fst
theorem zKC {l:List (Nat×Bool)} {j:Nat}:j∈reads l↔(j,false)∈l:=by
 simp only [reads,List.mem_map,List.mem_filter]
 constructor
 ·rintro ⟨⟨k,b⟩,⟨h1,h2⟩,rfl⟩
  cases b
  ·exact h1
  ·simp at h2
 ·intro h;exact ⟨(j,false),⟨h,rfl⟩,rfl⟩
theorem zLN:∀{l:List (Nat×Bool)},zJg ops tb l=true→(reads l).Pairwise (Late ops)
 | [],_=>by simp [reads]
 | (i,true)::l,h=>by
  simp only [zJg,Bool.and_eq_true] at h
  have:=zLN h.2
  simpa [reads] using this
 | (i,false)::l,h=>by
  have h':=h
  simp only [zJg,Bool.and_eq_true] at h'
  have h2:=zLN h'.2
  have h3:=(zCg (l1:=[]) h).1
  have h4:reads ((i,false)::l)=i::reads l:=by simp [reads]
  rw [h4,List.pairwise_cons]
  refine ⟨fun k hk x y hx hy d hd=> ?_,h2⟩
  have:=(h3 _ (zKC.1 hk)).2.2.2 rfl
  rcases zLP this hx hy with ⟨_,g⟩ | ⟨_,g⟩
  ·exact (g.resolve_left (by simp)) d hd
  ·obtain ⟨g1,g2,g3⟩:=Oper.apart_spec g
   exact ⟨g3 d hd,fun hx'=>g2 d hx' hd⟩
theorem zMY:∀{l:List zAo} {o:zAo} {st:St},zBT l st→o∈l→Holds o st
 | [],_,_,_,h=>by simp at h
 | x::l,o,st,hh,h=>by
  simp only [zBT] at hh
  rcases List.mem_cons.1 h with rfl | h
  ·exact hh.1
  ·exact zMY hh.2 h
theorem zFH (hS:zES ops ex tb ord) {e:Nat} {s:Bool} {rest:List (Nat×Bool)} (ho:ord=dn++(e,s)::rest):e∉dn.map Prod.fst:=by
 intro h
 obtain ⟨s',hs'⟩:=zFf h
 obtain ⟨m1,m2,hm⟩:=List.append_of_mem hs'
 have hok:=hS.ok
 rw [ho,hm] at hok
 simp only [List.append_assoc,List.cons_append] at hok
 exact ((zCg hok).1 (e,s) (by simp)).2.1 rfl
theorem zJW (h:Sim P N E0 w0 d0 ops tb dn listed a w as E st) {j:Nat} (hj:j∈dn.map Prod.fst) (hu:listed.getD j true=false):(j,false)∈dn:=by
 obtain ⟨s,hs⟩:=zFf hj
 cases s with
 | false=>exact hs
 | true=>have:=h.sync j hs;rw [this] at hu;cases hu
theorem Sim.behind (hS:zES ops ex tb ord) (h:Sim P N E0 w0 d0 ops tb dn listed a w as E st) {e:Nat} {rest:List (Nat×Bool)} (ho:ord=dn++(e,true)::rest) (hX:∀q∈ex,q.2=e→q.1<ops.size∧listed.getD q.1 true=true) (hr:e∈Region.ready .any ops listed) {n:Nat} (hal:zAT P N ops n ops.toList=some al)
  {x:Oper} (hx:ops[e]? =some x) {u:Value} {w':World} {E':Env} {st2:St} (hT:Told N E0 w0 d0 E' w' st2 (as.put x.dst u)) (hH:zBT (((reads dn).filter fun j=> !(tb.getD e []).contains j).map fun j=>al.getD j default) st2):
  ∃as2,Sim P N E0 w0 d0 ops tb (dn++[(e,true)]) (listed.setIfInBounds e true) (a.put x.dst u) w' as2 E' st2:=by
 obtain ⟨hlt,hun,hpr⟩:=zEh hr
 have hcl:=zEp hS.closed hX hlt h.closed hpr hS.tbn
 have hne:e∉dn.map Prod.fst:=zFH hS ho
 have hdo:∀q∈dn,q∈ord:=fun q hq=>by rw [ho];exact List.mem_append_left _ hq
 obtain ⟨as2,q1,q2,q3⟩:=zWa (st:=st2) (w:=w') (E:=E') hal hS.sel (((reads dn).filter fun j=> !(tb.getD e []).contains j).filter fun j=> !listed.getD j true) (as.put x.dst u) (by
   have h1:=zLN hS.ok
   have h2:reads ord=reads dn++reads ((e,true)::rest):=by rw [ho];simp [reads]
   rw [h2] at h1
   exact ((List.pairwise_append.1 h1).1.filter _).filter _) (fun j hj=>by
   simp only [List.mem_filter] at hj
   have hj1:=zKC.1 hj.1.1
   obtain ⟨y,hy⟩:∃y,ops[j]? =some y:=⟨ops[j]'(hS.lt _ (hdo _ hj1)),Array.getElem?_eq_getElem _⟩
   exact ⟨y,hy,hS.self (hdo _ hj1) hy,zMY hH (List.mem_map_of_mem (List.mem_filter.2 hj.1))⟩) hT
 have inJ:∀j,j∈dn.map Prod.fst→listed.getD j true=false→j∈((reads dn).filter fun j=> !(tb.getD e []).contains j).filter fun j=> !listed.getD j true:=by
  intro j hj hu
  simp only [List.mem_filter]
  refine ⟨⟨zKC.2 (zJW h hj hu), ?_⟩,by simp [hu]⟩
  simp only [Bool.not_eq_true']
  cases hc:(tb.getD e []).contains j with
  | false=>rfl
  | true=>have:=hcl j (by simpa using hc);rw [this] at hu;cases hu
 have fromJ:∀j,j∈((reads dn).filter fun j=> !(tb.getD e []).contains j).filter (fun j=> !listed.getD j true)→j∈dn.map Prod.fst∧listed.getD j true=false:=by
  intro j hj
  simp only [List.mem_filter] at hj
  exact ⟨List.mem_map_of_mem (f:=Prod.fst) (zKC.1 hj.1.1),by simpa using hj.2⟩
 have split:∀j,j∈(dn++[(e,true)]).map Prod.fst→j∈dn.map Prod.fst∨j=e:=by
  intro j hj;simpa using hj
 refine ⟨as2,q1,fun j hj hl=> ?_,fun j hj=> ?_,fun j hj hl k hk=> ?_,by simp [h.size], ?_, ?_,fun d hd=> ?_,fun j o hj hl hoj=> ?_⟩
 ·rcases zBX.1 hl with hl | rfl
  ·have:=h.sub j hj hl;simp only [List.map_append,List.mem_append];exact .inl this
  ·simp
 ·rcases List.mem_append.1 hj with hj | hj
  ·exact zBX.2 (.inl (h.sync j hj))
  ·simp at hj;exact zBX.2 (.inr hj)
 ·rcases zBX.1 hl with hl | rfl
  ·exact zBX.2 (.inl (h.closed j hj hl k hk))
  ·exact zBX.2 (.inl (hcl k hk))
 ·have h1:(a.put x.dst u).tmps.size=a.tmps.size:=by cases x.dst<;>simp [Act.put]
  rw [h1,h.tsz,h.told.size,q1.size]
 ·have h1:(a.put x.dst u).defers=a.defers:=by cases x.dst<;>simp [Act.put]
  rw [h1,h.dfs,h.told.defers,q1.defers]
 ·rw [q2 d fun j hj y hy=>hd j y (by simpa using .inl (by simpa using (fromJ j hj).1)) (zDc.2 ⟨(fromJ j hj).2,fun e'=>by subst e';exact hne (fromJ _ hj).1⟩) hy]
  rw [Act.put_get,Act.put_get,h.tsz]
  split
  ·rfl
  ·exact h.same d fun j o hj hl hoj=>hd j o (by simp only [List.map_append,List.mem_append];exact .inl hj) (zDc.2 ⟨hl,fun e'=>by subst e';exact hne hj⟩) hoj
 ·obtain ⟨hl,hje⟩:=zDc.1 hl
  exact q3 j (inJ j ((split j hj).resolve_right hje) hl) o hoj
theorem Sim.ahead (hS:zES ops ex tb ord) (h:Sim P N E0 w0 d0 ops tb dn listed a w as E st) {i:Nat} {rest:List (Nat×Bool)} (ho:ord=dn++(i,false)::rest) {x:Oper} (hx:ops[i]? =some x) (hN:∀d,x.dst=some d→d<N) {u:Value} {st':St}
  (hT:Told N E0 w0 d0 E w st' (as.put x.dst u)) (hP:Prom P ops x (as.put x.dst u) w):Sim P N E0 w0 d0 ops tb (dn++[(i,false)]) listed a w (as.put x.dst u) E st':=by
 have hne:i∉dn.map Prod.fst:=zFH hS ho
 have hio:(i,false)∈ord:=by rw [ho];simp
 have hun:listed.getD i true=false:=by
  cases hl:listed.getD i true with
  | false=>rfl
  | true=>exact absurd (h.sub i (hS.lt _ hio) hl) hne
 refine ⟨hT,fun j hj hl=> ?_,fun j hj=> ?_,h.closed,h.size, ?_, ?_,fun d hd=> ?_,fun j o hj hl hoj=> ?_⟩
 ·have:=h.sub j hj hl;simp only [List.map_append,List.mem_append];exact .inl this
 ·rcases List.mem_append.1 hj with hj | hj
  ·exact h.sync j hj
  ·simp at hj
 ·have h1:(as.put x.dst u).tmps.size=as.tmps.size:=by cases x.dst<;>simp [Act.put]
  rw [h1,h.tsz]
 ·have h1:(as.put x.dst u).defers=as.defers:=by cases x.dst<;>simp [Act.put]
  rw [h1,h.dfs]
 ·rw [Act.put_get,if_neg (fun hc=>hd i x (by simp) hun hx hc.1)]
  exact h.same d fun j o hj hl hoj=>hd j o (by simp only [List.map_append,List.mem_append];exact .inl hj) hl hoj
 ·have hj':j∈dn.map Prod.fst∨j=i:=by simpa using hj
  rcases hj' with hj' | rfl
  ·have hjr:=zJW h hj' hl
   obtain ⟨m1,m2,hm⟩:=List.append_of_mem hjr
   have hla:=zPc hS (l1:=m1) (l2:=m2++(i,false)::rest) (by rw [ho,hm];simp) (by simp) hoj hx
   exact (h.prom j o hj' hl hoj).put (hS.sel j o · · hoj) u (fun d hd=>(hla d hd).1) (fun d hd=>(hla d hd).2)
  ·rw [hx] at hoj;cases hoj;exact hP
theorem zPl:∀{l1:List (Nat×Bool)} {pl:List Nat} {i:Nat} {s:Bool} {l2:List (Nat×Bool)},zNk ops pl (l1++(i,s)::l2)=true→∀j∈zEw ops i,j∈pl∨j∈l1.map Prod.fst
 | [],pl,i,s,l2,h,j,hj=>by
  simp only [List.nil_append,zNk,Bool.and_eq_true,List.all_eq_true] at h
  exact .inl (by simpa using h.1 j hj)
 | (k,b)::l1,pl,i,s,l2,h,j,hj=>by
  simp only [List.cons_append,zNk,Bool.and_eq_true] at h
  rcases zPl h.2 j hj with h1 | h1
  ·rcases List.mem_cons.1 h1 with rfl | h1
   ·simp
   ·exact .inl h1
  ·simp [h1]
theorem zQP {tb:List (List Nat)} (h:zPm ops ex tb ord=true):zES ops ex tb ord:=by
 simp only [zPm,Bool.and_eq_true,List.all_eq_true,decide_eq_true_eq] at h
 obtain ⟨⟨⟨⟨⟨⟨⟨h1,h2⟩,h3⟩,h4⟩,h5⟩,h6⟩,h7⟩,h8⟩:=h
 refine ⟨fun i hi=>by simpa using h2 i (List.mem_range.2 hi),fun q hq=>h3 q hq,h4,h5,fun i o cs b ho=>Region.noSelect_spec h6 i o cs b ho,fun p hp=> ?_,h7⟩
 simp [List.getElem?_eq_none (show tb.length≤p by omega)]
theorem zQt (hS:zES ops ex tb ord) (hsz:listed.size=ops.size) (hr:Region.ready .any ops listed=[]):∀l1 l2,ord=l1++l2→(∀q∈l1,listed.getD q.1 true=true)→∀q∈l2,listed.getD q.1 true=true
 | l1,[],ho,h1,q,hq=>by simp at hq
 | l1,(i,s)::l2,ho,h1,q,hq=>by
  have hi:listed.getD i true=true:=by
   cases hl:listed.getD i true with
   | true=>rfl
   | false=>
    exfalso
    have hlt:=hS.lt (i,s) (by rw [ho];simp)
    have:i∈Region.ready .any ops listed:=by
     refine mem_ready.2 ⟨hl,ops[i],Array.getElem?_eq_getElem hlt,fun e he hb=> ?_⟩
     have hj:e.on∈zEw ops i:=by
      simp only [zEw,Array.getElem?_eq_getElem hlt,List.mem_map,List.mem_filter]
      exact ⟨e,⟨by simpa using he,hb⟩,rfl⟩
     have ht:=hS.topo
     rw [ho] at ht
     have:=(zPl ht _ hj).resolve_left (by simp)
     obtain ⟨s',hs'⟩:=zFf this
     have hlt':=hS.lt _ (show (e.on,s')∈ord by rw [ho];exact List.mem_append_left _ hs')
     have h3:=h1 _ hs'
     simp only [Array.getD_eq_getD_getElem?] at h3⊢
     rw [Array.getElem?_eq_getElem (by rw [hsz];exact hlt')] at h3⊢
     simpa using h3
    rw [hr] at this;simp at this
  rcases List.mem_cons.1 hq with rfl | hq
  ·exact hi
  ·exact zQt hS hsz hr (l1++[(i,s)]) l2 (by rw [ho];simp) (fun p hp=>by
    rcases List.mem_append.1 hp with hp | hp
    ·exact h1 p hp
    ·simp at hp;subst hp;exact hi) q hq
def unl (n:Nat) (listed:Array Bool):Nat:=((List.range n).filter fun i=> !listed.getD i true).length
theorem zNo {n i:Nat} (hi:i<n) (hl:listed.getD i true=false):unl n (listed.setIfInBounds i true)+1=unl n listed:=by
 have h1:((List.range n).filter fun j=> !(listed.setIfInBounds i true).getD j true)=((List.range n).filter fun j=> !listed.getD j true).erase i:=by
  rw [List.Nodup.erase_eq_filter (List.Pairwise.filter _ List.nodup_range),List.filter_filter]
  refine List.filter_congr fun j _=> ?_
  rw [Bool.eq_iff_iff]
  simp only [Bool.not_eq_true',Bool.and_eq_true,bne_iff_ne,ne_eq,zDc]
  exact And.comm
 have hm:i∈(List.range n).filter fun j=> !listed.getD j true:=List.mem_filter.2 ⟨List.mem_range.2 hi,by simp [hl]⟩
 have:=List.length_pos_of_mem hm
 unfold unl
 rw [h1,List.length_erase_of_mem hm]
 omega
theorem zVn {l:List (Nat×Bool)} {i:Nat}:reads (l++[(i,false)])=reads l++[i]:=by simp [reads]
theorem zNZ {l:List (Nat×Bool)} {i:Nat}:reads (l++[(i,true)])=reads l:=by simp [reads]
theorem zJM (hS:zES ops ex tb ord) {n:Nat} (hal:zAT P N ops n ops.toList=some al) {K:St→Prop}:∀todo dn as st,ord=dn++todo→Sim P N E0 w0 d0 ops tb dn listed a w as E st→zAV P (zDv tb al (reads dn) todo) st K→
  ∃dn' todo' as' st',ord=dn'++todo'∧Sim P N E0 w0 d0 ops tb dn' listed a w as' E st'∧zAV P (zDv tb al (reads dn') todo') st' K∧(todo'=[]∨∃e r,todo'=(e,true)::r)
 | [],dn,as,st,ho,h,hk=>⟨dn,[],as,st,ho,h,hk, .inl rfl⟩
 | (e,true)::r,dn,as,st,ho,h,hk=>⟨dn,_,as,st,ho,h,hk, .inr ⟨e,r,rfl⟩⟩
 | (i,false)::r,dn,as,st,ho,h,hk=>by
  have hio:(i,false)∈ord:=by rw [ho];simp
  have hlt:=hS.lt _ hio
  obtain ⟨x,hx⟩:∃x,ops[i]? =some x:=⟨ops[i],Array.getElem?_eq_getElem hlt⟩
  obtain ⟨ao,k1,k2⟩:=zEN hal i x (by simpa using hx)
  have hao:al.getD i default=ao:=by simp [k1]
  obtain ⟨g1,g2,g3,g4⟩:=zCe k2
  have hself:=hS.self hio hx
  have hsel:∀cs b,x.op≠ .select cs b:=fun cs b=>hS.sel i x cs b hx
  have hsz:∀d,x.dst=some d→d<as.tmps.size:=fun d hd=>by rw [h.told.size];exact g1 d hd
  have go:∀u st',Told N E0 w0 d0 E w st' (as.put x.dst u)→Prom P ops x (as.put x.dst u) w→zAV P (zDv tb al (reads dn++[i]) r) st' K→
    ∃dn' todo' as' st',ord=dn'++todo'∧Sim P N E0 w0 d0 ops tb dn' listed a w as' E st'∧zAV P (zDv tb al (reads dn') todo') st' K∧(todo'=[]∨∃e r,todo'=(e,true)::r):=fun u st' hT hP hk'=>
   zJM hS hal r (dn++[(i,false)]) (as.put x.dst u) st' (by rw [ho];simp) (h.ahead hS ho hx g1 hT hP) (by rw [zVn];exact hk')
  have read:∀st,Told N E0 w0 d0 E w st as→itK P ⟨ao,false,[]⟩ st (fun st2=>zBT [] st2∧zAV P (zDv tb al (reads dn++[i]) r) st2 K)→Region.wanted x (yielded ops as.tmps)=true→
    ∃dn' todo' as' st',ord=dn'++todo'∧Sim P N E0 w0 d0 ops tb dn' listed a w as' E st'∧zAV P (zDv tb al (reads dn') todo') st' K∧(todo'=[]∨∃e r,todo'=(e,true)::r):=by
   intro st hT hr hw
   simp only [itK] at hr
   obtain ⟨u,p,q1,q2,q3⟩:=zNR g3 hT.valid hT.str hr
   refine go u (st.putO ao.dst p) ?_ ⟨fun _=>⟨u,by rw [execOp_put (ops:=ops) x hsel as x.dst u hself];exact q1,zE3 hsz⟩,fun h'=> ?_⟩ q3.2
   ·rw [g4];exact hT.put g1 hT.valid q2 hT.str (Step.refl _ _)
   ·rw [wanted_put (ops:=ops) x as x.dst u hself,hw] at h';cases h'
  simp only [zDv,zAV,hao,Bool.false_eq_true,if_false] at hk
  split at hk
  ·rename_i hg
   rw [hg] at g2
   exact read st h.told hk (zIm g2 _)
  ·rename_i t b hg
   rw [hg] at g2
   split at hk
   ·rename_i g hget
    obtain ⟨gv,hu1,hu2⟩:=h.told.str.get hget
    simp only [VR,DR] at hu2;subst hu2
    have hw:=zHw g2 hu1
    by_cases hgb:g=b
    ·exact read _ (h.told.lit (by rw [←hgb];exact hu1)) (hk.1 hgb) (by rw [hw];simpa using hgb)
    ·have hgn:g= !b:=by cases g<;>cases b<;>simp_all
     have hno:=hk.2 hgn
     have hwf:Region.wanted x (yielded ops as.tmps)=false:=by rw [hw];simpa using hgb
     refine go undef ((st.lit t (!b)).putO ao.dst (.tup [])) ?_ ⟨fun h'=> ?_,fun _=>zE3 hsz⟩ hno.2
     ·rw [g4];exact (h.told.lit (by rw [←hgn];exact hu1)).un g1
     ·rw [wanted_put (ops:=ops) x as x.dst undef hself,hwf] at h';cases h'
   ·rename_i hget
    obtain ⟨gv,hu1,hu2⟩:=h.told.str.get hget
    have:=zH4 hu2;subst this
    have hwf:=zE4 g2 hu1
    refine go undef (st.putO ao.dst (.tup [])) ?_ ⟨fun h'=> ?_,fun _=>zE3 hsz⟩ hk.2
    ·rw [g4];exact h.told.un g1
    ·rw [wanted_put (ops:=ops) x as x.dst undef hself,hwf] at h';cases h'
   ·exact hk.elim
theorem zUQ (hS:zES ops [] tb ord) {n:Nat} (hal:zAT P N ops n ops.toList=some al) {K:St→Prop} {Q:Exit→Act→World→Prop} (hQ:∀E w st a,Told N E0 w0 d0 E w st a→K st→Q .normal a w):
  ∀(fuel:Nat) (todo dn:List (Nat×Bool)) (listed:Array Bool) (a:Act) (w:World) (as:Act) (E:Env) (st:St),ord=dn++todo→Sim P N E0 w0 d0 ops tb dn listed a w as E st→zAV P (zDv tb al (reads dn) todo) st K→unl ops.size listed≤fuel→wpAny P .any ops Q fuel listed a w:=by
 intro fuel
 induction fuel with
 | zero=>
  intro todo dn listed a w as E st ho h hk hu
  obtain ⟨dn',todo',as',st',ho',h',hk',hc⟩:=zJM hS hal todo dn as st ho h hk
  have hall:∀i,i<ops.size→listed.getD i true=true:=by
   intro i hi
   cases hl:listed.getD i true with
   | true=>rfl
   | false=>have:=zNo hi hl;omega
  have hno:Region.ready .any ops listed=[]:=by
   refine List.eq_nil_iff_forall_not_mem.2 fun i hi=> ?_
   obtain ⟨h1,h2,_⟩:=zEh hi
   rw [hall i h1] at h2;cases h2
  refine ⟨hno, ?_⟩
  rcases hc with rfl | ⟨e,r,rfl⟩
  ·simp only [zDv,zAV] at hk'
   have:a=as':=by
    obtain ⟨t1,d1⟩:=a;obtain ⟨t2,d2⟩:=as'
    have e1:t1=t2:=by
     refine Array.ext_getElem? fun d=>(h'.same d fun i o hi hl hoi=> ?_).symm
     obtain ⟨s,hs⟩:=zFf hi
     rw [hall i (hS.lt _ (by rw [ho'];exact List.mem_append_left _ hs))] at hl;cases hl
    have e2:=h'.dfs
    simp only at e1 e2;subst e1;subst e2;rfl
   rw [this];exact hQ E w st' as' h'.told hk'
  ·have h1:=zFH hS ho'
   have hlt:=hS.lt (e,true) (by rw [ho'];simp)
   exact absurd (h'.sub e hlt (hall e hlt)) h1
 | succ fuel ih=>
  intro todo dn listed a w as E st ho h hk hu
  obtain ⟨dn',todo',as',st',ho',h',hk',hc⟩:=zJM hS hal todo dn as st ho h hk
  refine ⟨fun hno=> ?_,fun i hi=> ?_⟩
  ·have hall:∀i,i<ops.size→listed.getD i true=true:=by
    intro i hi
    obtain ⟨s,hs⟩:=zFf (hS.cover i hi)
    exact zQt hS h.size hno [] ord rfl (by simp) _ hs
   rcases hc with rfl | ⟨e,r,rfl⟩
   ·simp only [zDv,zAV] at hk'
    have:a=as':=by
     obtain ⟨t1,d1⟩:=a;obtain ⟨t2,d2⟩:=as'
     have e1:t1=t2:=by
      refine Array.ext_getElem? fun d=>(h'.same d fun i o hi hl hoi=> ?_).symm
      obtain ⟨s,hs⟩:=zFf hi
      rw [hall i (hS.lt _ (by rw [ho'];exact List.mem_append_left _ hs))] at hl;cases hl
     have e2:=h'.dfs
     simp only at e1 e2;subst e1;subst e2;rfl
    rw [this];exact hQ E w st' as' h'.told hk'
   ·have h1:=zFH hS ho'
    have hlt:=hS.lt (e,true) (by rw [ho'];simp)
    exact absurd (h'.sub e hlt (hall e hlt)) h1
  ·obtain ⟨hlt,hun,hpr⟩:=zEh hi
   have hX:∀e∈([]:List (Nat×Nat)),e.2=i→e.1<ops.size∧listed.getD e.1 true=true:=fun e he=>by simp at he
   have hun':=zNo hlt hun
   have hN:∀(i:Nat) (o:Oper),ops[i]? =some o→∀d,o.dst=some d→d<N:=fun i o hio=>by
    obtain ⟨ao,k1,k2⟩:=zEN hal i o (by simpa using hio)
    exact (zCe k2).1
   by_cases hd:i∈dn'.map Prod.fst
   ·exact h'.pick hS ⟨todo',ho'⟩ hX (zJW h' hd hun) hi hN fun a' ha'=>ih todo' dn' _ a' w as' E st' ho' ha' hk' (by omega)
   ·
    have hin:i∈todo'.map Prod.fst:=by
     have:=hS.cover i hlt
     rw [ho',List.map_append,List.mem_append] at this
     exact this.resolve_left hd
    rcases hc with rfl | ⟨e,r,rfl⟩
    ·simp at hin
    ·have hcl:=zEp hS.closed hX hlt h'.closed hpr hS.tbn
     have hie:i=e:=by
      simp only [List.map_cons,List.mem_cons] at hin
      rcases hin with hin | hin
      ·exact hin
      ·exfalso
       obtain ⟨s,hs⟩:=zFf hin
       have hok:=hS.ok
       rw [ho'] at hok
       have h3:=((zCg hok).1 _ hs).2.2.1 rfl
       have hlt':=hS.lt (e,true) (by rw [ho'];simp)
       exact zFH hS ho' (h'.sub e hlt' (hcl e h3))
     subst hie
     obtain ⟨x,hx⟩:∃x,ops[i]? =some x:=⟨ops[i],Array.getElem?_eq_getElem hlt⟩
     obtain ⟨ao,k1,k2⟩:=zEN hal i x (by simpa using hx)
     have hao:al.getD i default=ao:=by simp [k1]
     obtain ⟨g1,g2,g3,g4⟩:=zCe k2
     obtain ⟨_,hag⟩:=h'.agrees hS ⟨_,ho'⟩ hX (show (i,true)∈ord by rw [ho'];simp) hi (.inr hd) hx
     obtain ⟨he,hw⟩:=zPF (hS.sel i x · · hx) hag
     have go:∀u w' E' st2,Told N E0 w0 d0 E' w' st2 (as'.put x.dst u)→zBT (((reads dn').filter fun j=> !(tb.getD i []).contains j).map fun j=>al.getD j default) st2→zAV P (zDv tb al (reads dn') r) st2 K→
       wpAny P .any ops Q fuel (listed.setIfInBounds i true) (a.put x.dst u) w':=by
      intro u w' E' st2 hT hH hk2
      obtain ⟨as2,hsim⟩:=h'.behind hS ho' hX hi hal hx hT hH
      exact ih r (dn'++[(i,true)]) _ _ w' as2 E' st2 (by rw [ho'];simp) hsim (by rw [zNZ];exact hk2) (by omega)
     have run:∀st',Told N E0 w0 d0 E w st' as'→itK P ⟨ao,true,((reads dn').filter fun j=> !(tb.getD i []).contains j).map fun j=>al.getD j default⟩ st' (fun st2=>zBT (((reads dn').filter fun j=> !(tb.getD i []).contains j).map fun j=>al.getD j default) st2∧zAV P (zDv tb al (reads dn') r) st2 K)→
       x.wp P a w (wpAny P .any ops Q fuel (listed.setIfInBounds i true)) Q:=by
      intro st' hT hr
      simp only [itK] at hr
      have:=zLA hT.valid hT.str g3 hr
      rw [←he] at this
      refine this.wp fun u w' ⟨E',p,st2,j1,j2,j3,j4,j5,j6⟩=>go u w' E' _ ?_ j5 j6
      rw [g4];exact hT.put g1 j1 j2 j3 j4
     simp only [zDv,zAV,hao,if_true] at hk'
     unfold wpOp
     simp only [hx]
     split at hk'
     ·rename_i hg
      rw [hg] at g2
      rw [zIm g2,if_pos rfl]
      exact .inl (run _ h'.told hk')
     ·rename_i t b hg
      rw [hg] at g2
      split at hk'
      ·rename_i g hget
       obtain ⟨gv,hu1,hu2⟩:=h'.told.str.get hget
       simp only [VR,DR] at hu2;subst hu2
       have hw2:=zHw g2 hu1
       by_cases hgb:g=b
       ·rw [hw,hw2,if_pos (by simpa using hgb)]
        exact .inl (run _ (h'.told.lit (by rw [←hgb];exact hu1)) (hk'.1 hgb))
       ·rw [hw,hw2,if_neg (by simpa using hgb)]
        have hgn:g= !b:=by cases g<;>cases b<;>simp_all
        have hno:=hk'.2 hgn
        refine go undef w E _ ?_ hno.1 hno.2
        rw [g4];exact (h'.told.lit (by rw [←hgn];exact hu1)).un g1
      ·rename_i hget
       obtain ⟨gv,hu1,hu2⟩:=h'.told.str.get hget
       have:=zH4 hu2;subst this
       rw [hw,zE4 g2 hu1,if_neg (by simp)]
       refine go undef w E _ ?_ hk'.1 hk'.2
       rw [g4];exact h'.told.un g1
      ·exact hk'.elim
end
end Go.Proofs.YtnmlihfpenjeiaaGreat.Abs
namespace Go.Proofs.YtnmlihfpenjeiaaGreat.Abs
open Go Go.RowKit
set_option linter.unusedVariables false
set_option linter.unusedSimpArgs false
structure Cand where
 seq:List Nat
 tb:List (List Nat)
 ord:List (Nat×Bool)
 deriving Inhabited
def exOf (s:List Nat):List (Nat×Nat):=s.zip s.tail
def zWo (tb:List (List Nat)):Nat→List Nat→List (List Nat)
 | 0,_=>[[]]
 | f+1,rem=>match rem with
  | []=>[[]]
  | _=>(rem.filter fun i=>rem.all fun j=>i==j|| !(tb.getD i []).contains j).flatMap fun i=>(zWo tb f (rem.erase i)).map (i::·)
def zOl (ops:Array Oper) (sync:Nat→Bool):Nat→List Nat→List Nat→List Nat→List (Nat×Bool)
 | 0,_,_,_=>[]
 | f+1,rem,sq,done=>
  match rem.find? fun i=> !sync i&&(zEw ops i).all done.contains with
  | some i=>(i,false)::zOl ops sync f (rem.erase i) sq (i::done)
  | none=>match sq with
   | s::sq=>(s,true)::zOl ops sync f (rem.erase s) sq (s::done)
   | []=>[]
def zYa (ops:Array Oper) (ex:List (Nat×Nat)):List Nat→List (List Nat)→List (List Nat)
 | [],tb=>tb
 | i::r,tb=>
  let ps:=zEw ops i++(ex.filter fun e=>e.2==i).map Prod.fst
  zYa ops ex r (tb.set i (ps++ps.flatMap fun p=>tb.getD p []).eraseDups)
def zZB (ops:Array Oper) (sync:Nat→Bool) (s:List Nat):Cand:=
 let ord:=zOl ops sync ops.size (List.range ops.size) s []
 ⟨s,zYa ops (exOf s) (ord.map Prod.fst) (List.replicate ops.size []),ord⟩
def AOp.isW:AOp→Bool
 | .alloc .. =>true
 | .box .. =>true
 | .bslice .. =>true
 | .mkS .. =>true
 | .convB .. =>true
 | .app .. =>true
 | .appZ .. =>true
 | _=>false
def zRU (ops:Array Oper) (cs:List Cand) (c:Cand) (k i:Nat):Bool:=
 (c.seq.take k).contains i|| !((zEw ops i++(zEw ops i).flatMap fun p=>c.tb.getD p []).all fun j=> !c.seq.contains j||(c.seq.take k).contains j)||
  cs.any fun c'=>(c.seq.take k++[i]).isPrefixOf c'.seq
def zSy (al:List zAo) (cs:List Cand) (c:Cand) (k i:Nat):Bool:=
 !c.seq.contains i||(cs.filter fun c'=>(c.seq.take k++[i]).isPrefixOf c'.seq).length≤1||(al.getD i default).op.isW
def zSt (ops:Array Oper) (al:List zAo) (sy:List Nat) (cs:List Cand):Bool:=
 !cs.isEmpty&&cs.all fun c=>zPm ops (exOf c.seq) c.tb c.ord&&decide ((c.ord.filter Prod.snd).map Prod.fst=c.seq)&&decide c.seq.Nodup&&sy.all c.seq.contains&&c.seq.all sy.contains&&
  (List.range (c.seq.length+1)).all fun k=>(List.range ops.size).all fun i=>(!sy.contains i||zRU ops cs c k i)&&zSy al cs c k i
def zY0 (ops:Array Oper) (al:List zAo):List Cand:=
 let tb:=ancs ops ops.size
 let sync:=zSc ops tb al
 (zWo tb ops.size ((List.range ops.size).filter sync)).map (zZB ops sync)
def zLD (P:Program) (ops:Array Oper) (al:List zAo):Option (List (List DIt)):=
 let sync:=zSc ops (ancs ops ops.size) al
 let cs:=zY0 ops al
 if P.follows .mixedOrders&&(decide (cs.length≤12)&&zSt ops al ((List.range ops.size).filter sync) cs) then some (cs.map fun c=>zDv c.tb al [] c.ord) else none
section
variable {P:Program} {N:Nat} {ops:Array Oper} {ex:List (Nat×Nat)} {tb:List (List Nat)} {al:List zAo} {ord dn todo:List (Nat×Bool)} {listed:Array Bool}
variable {E0 E:Env} {w0 w:World} {d0:List Deferred} {a as:Act} {st:St}
def zGs (P:Program) (ops:Array Oper) (i:Nat) (a:Act) (w:World) (a':Act) (w':World):Prop:=
 ∃x,ops[i]? =some x∧((Region.wanted x (yielded ops a.tmps)=true∧∃u,((execOp a.eval x).run P w= .ok (.value u) w'∨((execOp a.eval x).run P w= .ok .skip w'∧u=undef))∧a'=a.put x.dst u)∨
  (Region.wanted x (yielded ops a.tmps)=false∧a'=a.put x.dst undef∧w'=w))
theorem zGs.det {i:Nat} {a1 a2:Act} {w1 w2:World} (h:zGs P ops i a w a1 w1) (k:zGs P ops i a w a2 w2):a1=a2∧w1=w2:=by
 obtain ⟨x,hx,h⟩:=h
 obtain ⟨y,hy,k⟩:=k
 rw [hx] at hy;cases hy
 rcases h with ⟨h1,u,h2,rfl⟩ | ⟨h1,rfl,rfl⟩<;>rcases k with ⟨k1,v,k2,rfl⟩ | ⟨k1,rfl,rfl⟩
 ·rcases h2 with h2 | ⟨h2,rfl⟩<;>rcases k2 with k2 | ⟨k2,rfl⟩<;>rw [h2] at k2<;>cases k2<;>exact ⟨rfl,rfl⟩
 ·rw [h1] at k1;cases k1
 ·rw [h1] at k1;cases k1
 ·exact ⟨rfl,rfl⟩
theorem zGs.wp {i:Nat} {a':Act} {w':World} (h:zGs P ops i a w a' w') {Q:Exit→Act→World→Prop} {K:Act→World→Prop} (hk:K a' w'):wpOp P ops Q i K a w:=by
 obtain ⟨x,hx,h⟩:=h
 unfold wpOp
 simp only [hx]
 rcases h with ⟨h1,u,h2,rfl⟩ | ⟨h1,rfl,rfl⟩
 ·rw [if_pos h1]
  refine .inl ?_
  unfold Oper.wp
  rcases h2 with h2 | ⟨h2,rfl⟩<;>rw [h2]<;>exact hk
 ·rw [if_neg (by rw [h1];simp)]
  exact hk
theorem Sim.pickTo (hS:zES ops ex tb ord) (h:Sim P N E0 w0 d0 ops tb dn listed a w as E st) (hdn:∃r,ord=dn++r) {i:Nat} (hX:∀e∈ex,e.2=i→e.1<ops.size∧listed.getD e.1 true=true) (hi:(i,false)∈dn) (hr:i∈Region.ready .any ops listed)
  (hN:∀(i:Nat) (o:Oper),ops[i]? =some o→∀d,o.dst=some d→d<N):∃a',zGs P ops i a w a' w∧Sim P N E0 w0 d0 ops tb dn (listed.setIfInBounds i true) a' w as E st:=by
 obtain ⟨hlt,hun,hpr⟩:=zEh hr
 have hcl:=zEp hS.closed hX hlt h.closed hpr hS.tbn
 have hio:(i,false)∈ord:=by obtain ⟨r,hr⟩:=hdn;rw [hr];exact List.mem_append_left _ hi
 have him:i∈dn.map Prod.fst:=List.mem_map_of_mem (f:=Prod.fst) hi
 obtain ⟨x,hx⟩:∃x,ops[i]? =some x:=⟨ops[i],Array.getElem?_eq_getElem hlt⟩
 obtain ⟨hkey,hag⟩:=h.agrees hS hdn hX hio hr (.inl rfl) hx
 obtain ⟨he,hw⟩:=zPF (hS.sel i x · · hx) hag
 obtain ⟨p1,p2⟩:=h.prom i x him hun hx
 have next:∀u,(∀d,x.dst=some d→as.tmps[d]? =some u)→Sim P N E0 w0 d0 ops tb dn (listed.setIfInBounds i true) (a.put x.dst u) w as E st:=by
  intro u hu
  refine ⟨h.told,fun j hj hl=> ?_,fun j hj=>zBX.2 (.inl (h.sync j hj)),fun j hj hl k hk=> ?_,by simp [h.size], ?_, ?_,fun d hd=> ?_,fun j o hj hl ho=> ?_⟩
  ·rcases zBX.1 hl with hl | rfl
   ·exact h.sub j hj hl
   ·exact him
  ·rcases zBX.1 hl with hl | rfl
   ·exact zBX.2 (.inl (h.closed j hj hl k hk))
   ·exact zBX.2 (.inl (hcl k hk))
  ·have:=h.tsz;cases hx':x.dst<;>simpa [Act.put,hx'] using this
  ·have:=h.dfs;cases hx':x.dst<;>simpa [Act.put,hx'] using this
  ·rw [Act.put_get]
   split
   ·rename_i hc;exact hu d hc.1
   ·rename_i hc
    refine h.same d fun j o hj hl ho hod=> ?_
    by_cases hji:j=i
    ·subst hji
     rw [hx] at ho;cases ho
     exact hc ⟨hod,by rw [h.tsz,h.told.size];exact hN j x hx d hod⟩
    ·exact hd j o hj (zDc.2 ⟨hl,hji⟩) ho hod
  ·exact h.prom j o hj (zDc.1 hl).1 ho
 cases hwt:Region.wanted x (yielded ops as.tmps) with
 | true=>
  obtain ⟨u,g1,g2⟩:=p1 hwt
  exact ⟨_,⟨x,hx, .inl ⟨by rw [hw];exact hwt,u, .inl (by rw [he];exact g1),rfl⟩⟩,next u g2⟩
 | false=>exact ⟨_,⟨x,hx, .inr ⟨by rw [hw];exact hwt,rfl,rfl⟩⟩,next undef (p2 hwt)⟩
theorem zWG (hv:zAm E w) {a:Act} (hs:StR E w st a.tmps) {n:Nat} {o:Oper} {ao:AOp} (ht:trOp P o.op=some ao) (hW:ao.isW=true) {K:PV→St→Prop} (h:zAY P n ao st K):
  ∃u w',((execOp a.eval o).run P w= .ok (.value u) w'∨((execOp a.eval o).run P w= .ok .skip w'∧u=undef))∧∃E' p st',zAm E' w'∧VR E' w' p u∧StR E' w' st' a.tmps∧Step E w E' w'∧K p st':=by
 unfold zAY at h
 split at h
 ·rename_i c v hr
  obtain ⟨u,h1,h2⟩:=zMI (opdR hs) hs.bxR hs.bxM hs.bxV ht hr h.1
  exact ⟨u,w, .inl h1,E,v,st,hv,h2,hs,Step.refl _ _,h.2⟩
 ·split at h
  ·rename_i c v st' hr
   obtain ⟨u,w',E',h1,h2,h3,h4,h5⟩:=zQT (by omega) hv hs ht hr h.1
   exact ⟨u,w',h1,E',v,st',h3,h2,h4,h5,h.2⟩
  ·exfalso
   cases ao<;>simp only [AOp.isW,reduceCtorEq,Bool.false_eq_true] at hW<;>simp only [zCS] at h
def Beh (P:Program) (N:Nat) (E0:Env) (w0:World) (d0:List Deferred) (ops:Array Oper) (tb:List (List Nat)) (al:List zAo) (K:St→Prop) (dn r:List (Nat×Bool)) (listed:Array Bool) (a':Act) (w':World):Prop:=
 ∃as2 E2 st2,Sim P N E0 w0 d0 ops tb dn listed a' w' as2 E2 st2∧zAV P (zDv tb al (reads dn) r) st2 K
theorem Sim.syncs (hS:zES ops ex tb ord) (h:Sim P N E0 w0 d0 ops tb dn listed a w as E st) {i:Nat} {r:List (Nat×Bool)} (ho:ord=dn++(i,true)::r) (hX:∀q∈ex,q.2=i→q.1<ops.size∧listed.getD q.1 true=true)
  (hi:i∈Region.ready .any ops listed) {n:Nat} (hal:zAT P N ops n ops.toList=some al) {K:St→Prop} (hk:zAV P (zDv tb al (reads dn) ((i,true)::r)) st K) {Q:Exit→Act→World→Prop}:
  wpOp P ops Q i (Beh P N E0 w0 d0 ops tb al K (dn++[(i,true)]) r (listed.setIfInBounds i true)) a w∧
  ((al.getD i default).op.isW=true→∃a' w',zGs P ops i a w a' w'∧Beh P N E0 w0 d0 ops tb al K (dn++[(i,true)]) r (listed.setIfInBounds i true) a' w'):=by
 obtain ⟨hlt,hun,hpr⟩:=zEh hi
 have hd:=zFH hS ho
 obtain ⟨x,hx⟩:∃x,ops[i]? =some x:=⟨ops[i],Array.getElem?_eq_getElem hlt⟩
 obtain ⟨ao,k1,k2⟩:=zEN hal i x (by simpa using hx)
 have hao:al.getD i default=ao:=by simp [k1]
 obtain ⟨g1,g2,g3,g4⟩:=zCe k2
 obtain ⟨_,hag⟩:=h.agrees hS ⟨_,ho⟩ hX (show (i,true)∈ord by rw [ho];simp) hi (.inr hd) hx
 obtain ⟨he,hw⟩:=zPF (hS.sel i x · · hx) hag
 have go:∀u w' E' st2,Told N E0 w0 d0 E' w' st2 (as.put x.dst u)→zBT (((reads dn).filter fun j=> !(tb.getD i []).contains j).map fun j=>al.getD j default) st2→zAV P (zDv tb al (reads dn) r) st2 K→
   Beh P N E0 w0 d0 ops tb al K (dn++[(i,true)]) r (listed.setIfInBounds i true) (a.put x.dst u) w':=by
  intro u w' E' st2 hT hH hk2
  obtain ⟨as2,hsim⟩:=h.behind hS ho hX hi hal hx hT hH
  exact ⟨as2,E',st2,hsim,by rw [zNZ];exact hk2⟩
 have run:∀st',Told N E0 w0 d0 E w st' as→itK P ⟨ao,true,((reads dn).filter fun j=> !(tb.getD i []).contains j).map fun j=>al.getD j default⟩ st' (fun st2=>zBT (((reads dn).filter fun j=> !(tb.getD i []).contains j).map fun j=>al.getD j default) st2∧zAV P (zDv tb al (reads dn) r) st2 K)→
   x.wp P a w (Beh P N E0 w0 d0 ops tb al K (dn++[(i,true)]) r (listed.setIfInBounds i true)) Q∧
   (ao.op.isW=true→∃u w',((execOp a.eval x).run P w= .ok (.value u) w'∨((execOp a.eval x).run P w= .ok .skip w'∧u=undef))∧Beh P N E0 w0 d0 ops tb al K (dn++[(i,true)]) r (listed.setIfInBounds i true) (a.put x.dst u) w'):=by
  intro st' hT hr
  simp only [itK] at hr
  constructor
  ·have:=zLA hT.valid hT.str g3 hr
   rw [←he] at this
   refine this.wp fun u w' ⟨E',p,st2,j1,j2,j3,j4,j5,j6⟩=>go u w' E' _ ?_ j5 j6
   rw [g4];exact hT.put g1 j1 j2 j3 j4
  ·intro hW
   obtain ⟨u,w',q,E',p,st2,j1,j2,j3,j4,j5,j6⟩:=zWG hT.valid hT.str g3 hW hr
   rw [←he] at q
   refine ⟨u,w',q,go u w' E' _ ?_ j5 j6⟩
   rw [g4];exact hT.put g1 j1 j2 j3 j4
 have wanted:Region.wanted x (yielded ops a.tmps)=true→(x.wp P a w (Beh P N E0 w0 d0 ops tb al K (dn++[(i,true)]) r (listed.setIfInBounds i true)) Q∧
   (ao.op.isW=true→∃u w',((execOp a.eval x).run P w= .ok (.value u) w'∨((execOp a.eval x).run P w= .ok .skip w'∧u=undef))∧Beh P N E0 w0 d0 ops tb al K (dn++[(i,true)]) r (listed.setIfInBounds i true) (a.put x.dst u) w'))→
   wpOp P ops Q i (Beh P N E0 w0 d0 ops tb al K (dn++[(i,true)]) r (listed.setIfInBounds i true)) a w∧
   ((al.getD i default).op.isW=true→∃a' w',zGs P ops i a w a' w'∧Beh P N E0 w0 d0 ops tb al K (dn++[(i,true)]) r (listed.setIfInBounds i true) a' w'):=by
  rintro hwt ⟨q1,q2⟩
  constructor
  ·unfold wpOp
   simp only [hx]
   rw [if_pos hwt]
   exact .inl q1
  ·intro hW
   rw [hao] at hW
   obtain ⟨u,w',q3,q4⟩:=q2 hW
   exact ⟨_,w',⟨x,hx, .inl ⟨hwt,u,q3,rfl⟩⟩,q4⟩
 have unwanted:Region.wanted x (yielded ops a.tmps)=false→Beh P N E0 w0 d0 ops tb al K (dn++[(i,true)]) r (listed.setIfInBounds i true) (a.put x.dst undef) w→
   wpOp P ops Q i (Beh P N E0 w0 d0 ops tb al K (dn++[(i,true)]) r (listed.setIfInBounds i true)) a w∧
   ((al.getD i default).op.isW=true→∃a' w',zGs P ops i a w a' w'∧Beh P N E0 w0 d0 ops tb al K (dn++[(i,true)]) r (listed.setIfInBounds i true) a' w'):=by
  intro hwt q
  have hst:zGs P ops i a w (a.put x.dst undef) w:=⟨x,hx, .inr ⟨hwt,rfl,rfl⟩⟩
  exact ⟨hst.wp q,fun _=>⟨_,_,hst,q⟩⟩
 simp only [zDv,zAV,hao,if_true] at hk
 split at hk
 ·rename_i hg
  rw [hg] at g2
  exact wanted (zIm g2 _) (run _ h.told hk)
 ·rename_i t b hg
  rw [hg] at g2
  split at hk
  ·rename_i g hget
   obtain ⟨gv,hu1,hu2⟩:=h.told.str.get hget
   simp only [VR,DR] at hu2;subst hu2
   have hw2:=zHw g2 hu1
   by_cases hgb:g=b
   ·exact wanted (by rw [hw,hw2];simpa using hgb) (run _ (h.told.lit (by rw [←hgb];exact hu1)) (hk.1 hgb))
   ·have hgn:g= !b:=by cases g<;>cases b<;>simp_all
    have hno:=hk.2 hgn
    refine unwanted (by rw [hw,hw2];simpa using hgb) (go undef w E _ ?_ hno.1 hno.2)
    rw [g4];exact (h.told.lit (by rw [←hgn];exact hu1)).un g1
  ·rename_i hget
   obtain ⟨gv,hu1,hu2⟩:=h.told.str.get hget
   have:=zH4 hu2;subst this
   refine unwanted (by rw [hw];exact zE4 g2 hu1) (go undef w E _ ?_ hk.1 hk.2)
   rw [g4];exact h.told.un g1
  ·exact hk.elim
structure zYj (ops:Array Oper) (al:List zAo) (sy:List Nat) (cs:List Cand):Prop where
 ne:cs≠[]
 stat:∀c∈cs,zES ops (exOf c.seq) c.tb c.ord
 seq:∀c∈cs,(c.ord.filter Prod.snd).map Prod.fst=c.seq
 nodup:∀c∈cs,c.seq.Nodup
 all:∀c∈cs,∀i,i∈c.seq↔i∈sy
 next:∀c∈cs,∀k≤c.seq.length,∀i<ops.size,i∈sy→zRU ops cs c k i=true
 one:∀c∈cs,∀k≤c.seq.length,∀i<ops.size,zSy al cs c k i=true
theorem zXn {sy:List Nat} {cs:List Cand} (h:zSt ops al sy cs=true):zYj ops al sy cs:=by
 simp only [zSt,Bool.and_eq_true,List.all_eq_true,decide_eq_true_eq,Bool.not_eq_true',List.mem_range,Bool.or_eq_true] at h
 obtain ⟨h1,h2⟩:=h
 refine ⟨fun e=>by simp [e] at h1,fun c hc=>zQP (h2 c hc).1.1.1.1.1,fun c hc=>(h2 c hc).1.1.1.1.2,fun c hc=>(h2 c hc).1.1.1.2,fun c hc i=>⟨fun hi=> ?_,fun hi=> ?_⟩,fun c hc k hk i hi hs=> ?_,fun c hc k hk i hi=>((h2 c hc).2 k (by omega) i hi).2⟩
 ·simpa using (h2 c hc).1.2 i hi
 ·simpa using (h2 c hc).1.1.2 i hi
 ·rcases ((h2 c hc).2 k (by omega) i hi).1 with h | h
  ·simp [hs] at h
  ·exact h
theorem zMy {l:List Nat} {e:Nat×Nat} (h:e∈exOf l):∃l1 l2,l=l1++e.1::e.2::l2:=by
 unfold exOf at h
 induction l with
 | nil=>simp at h
 | cons x r ih=>
  cases r with
  | nil=>simp at h
  | cons y r'=>
   simp only [List.tail_cons,List.zip_cons_cons,List.mem_cons] at h
   rcases h with rfl | h
   ·exact ⟨[],r',rfl⟩
   ·obtain ⟨l1,l2,h2⟩:=ih h
    exact ⟨x::l1,l2,by rw [h2];rfl⟩
theorem zLO {c:Cand} (hq:(c.ord.filter Prod.snd).map Prod.fst=c.seq) {i:Nat}:(i,true)∈c.ord↔i∈c.seq:=by
 rw [←hq,List.mem_map]
 constructor
 ·intro h;exact ⟨(i,true),List.mem_filter.2 ⟨h,rfl⟩,rfl⟩
 ·rintro ⟨⟨j,b⟩,h1,rfl⟩
  obtain ⟨h2,h3⟩:=List.mem_filter.1 h1
  simp only at h3;subst h3;exact h2
def zRI (P:Program) (N:Nat) (E0:Env) (w0:World) (d0:List Deferred) (ops:Array Oper) (al:List zAo) (K:St→Prop) (c:Cand) (listed:Array Bool) (a:Act) (w:World):Prop:=
 ∃dn todo,c.ord=dn++todo∧Beh P N E0 w0 d0 ops c.tb al K dn todo listed a w
theorem zXP {sy:List Nat} {cs:List Cand} (hM:zYj ops al sy cs) {n:Nat} (hal:zAT P N ops n ops.toList=some al) {K:St→Prop} {Q:Exit→Act→World→Prop} (hQ:∀E w st a,Told N E0 w0 d0 E w st a→K st→Q .normal a w):
  ∀(fuel:Nat) (h:List Nat) (listed:Array Bool) (a:Act) (w:World),(∃c∈cs,h <+: c.seq)→(∀i∈sy,listed.getD i true=true↔i∈h)→(∀c∈cs,h <+: c.seq→zRI P N E0 w0 d0 ops al K c listed a w)→unl ops.size listed≤fuel→wpAny P .any ops Q fuel listed a w:=by
 have stop:∀(c:Cand) (listed:Array Bool) (a:Act) (w:World),c∈cs→zRI P N E0 w0 d0 ops al K c listed a w→(∀i,i<ops.size→listed.getD i true=true)→Q .normal a w:=by
  intro c listed a w hc hA hall
  obtain ⟨dn,todo,ho,as,E,st,h,hk⟩:=hA
  have hS:=hM.stat c hc
  obtain ⟨dn',todo',as',st',ho',h',hk',hc'⟩:=zJM hS hal todo dn as st ho h hk
  rcases hc' with rfl | ⟨e,r,rfl⟩
  ·simp only [zDv,zAV] at hk'
   have:a=as':=by
    obtain ⟨t1,d1⟩:=a;obtain ⟨t2,d2⟩:=as'
    have e1:t1=t2:=by
     refine Array.ext_getElem? fun d=>(h'.same d fun i o hi hl hoi=> ?_).symm
     obtain ⟨s,hs⟩:=zFf hi
     rw [hall i (hS.lt _ (by rw [ho'];exact List.mem_append_left _ hs))] at hl;cases hl
    have e2:=h'.dfs
    simp only at e1 e2;subst e1;subst e2;rfl
   rw [this];exact hQ E w st' as' h'.told hk'
  ·have h1:=zFH hS ho'
   have hlt:=hS.lt (e,true) (by rw [ho'];simp)
   exact absurd (h'.sub e hlt (hall e hlt)) h1
 intro fuel
 induction fuel with
 | zero=>
  intro h listed a w ⟨c0,hc0,hp0⟩ hl hA hu
  have hall:∀i,i<ops.size→listed.getD i true=true:=by
   intro i hi
   cases hl:listed.getD i true with
   | true=>rfl
   | false=>have:=zNo hi hl;omega
  have hno:Region.ready .any ops listed=[]:=by
   refine List.eq_nil_iff_forall_not_mem.2 fun i hi=> ?_
   obtain ⟨h1,h2,_⟩:=zEh hi
   rw [hall i h1] at h2;cases h2
  exact ⟨hno,stop c0 listed a w hc0 (hA c0 hc0 hp0) hall⟩
 | succ fuel ih=>
  intro h listed a w ⟨c0,hc0,hp0⟩ hl hA hu
  refine ⟨fun hno=> ?_,fun i hi=> ?_⟩
  ·obtain ⟨dn,todo,ho,as,E,st,hsim,hk⟩:=hA c0 hc0 hp0
   have hS:=hM.stat c0 hc0
   refine stop c0 listed a w hc0 (hA c0 hc0 hp0) fun i hi=> ?_
   obtain ⟨s,hs⟩:=zFf (hS.cover i hi)
   exact zQt hS hsim.size hno [] c0.ord rfl (by simp) _ hs
  ·obtain ⟨hlt,hun,hpr⟩:=zEh hi
   have hun':=zNo hlt hun
   have hN:∀(i:Nat) (o:Oper),ops[i]? =some o→∀d,o.dst=some d→d<N:=fun i o hio=>by
    obtain ⟨ao,k1,k2⟩:=zEN hal i o (by simpa using hio)
    exact (zCe k2).1
   by_cases hsy:i∈sy
   ·
    have hih:i∉h:=fun hc=>by rw [(hl i hsy).2 hc] at hun;cases hun
    obtain ⟨c1,hc1,hp1⟩:∃c1∈cs,h++[i] <+: c1.seq:=by
     obtain ⟨dn,todo,ho,as,E,st,hsim,hk⟩:=hA c0 hc0 hp0
     have hle:=hp0.length_le
     have htk:c0.seq.take h.length=h:=(List.prefix_iff_eq_take.1 hp0).symm
     have:=hM.next c0 hc0 h.length hle i hlt hsy
     simp only [zRU,htk,Bool.or_eq_true,List.any_eq_true,List.isPrefixOf_iff_prefix] at this
     rcases this with (h1 | h1) | h1
     ·exact absurd (by simpa using h1) hih
     ·exfalso
      simp only [Bool.not_eq_true',List.all_eq_false,Bool.not_eq_true,Bool.or_eq_false_iff,Bool.not_eq_false'] at h1
      obtain ⟨j,h2,h3,h4⟩:=h1
      have hjs:j∈sy:=(hM.all c0 hc0 j).1 (by simpa using h3)
      have hjl:listed.getD j true=true:=by
       rcases List.mem_append.1 h2 with h2 | h2
       ·exact hpr j h2
       ·obtain ⟨p,q1,q2⟩:=List.mem_flatMap.1 h2
        by_cases hps:p<ops.size
        ·exact hsim.closed p hps (hpr p q1) j q2
        ·rw [(hM.stat c0 hc0).tbn p (by omega)] at q2;simp at q2
      have:=(hl j hjs).1 hjl
      simp [this] at h4
     ·exact h1
    have each:∀c∈cs,h++[i] <+: c.seq→∃dn r as E st,c.ord=dn++(i,true)::r∧Sim P N E0 w0 d0 ops c.tb dn listed a w as E st∧zAV P (zDv c.tb al (reads dn) ((i,true)::r)) st K∧(∀q∈exOf c.seq,q.2=i→q.1<ops.size∧listed.getD q.1 true=true):=by
     intro c hc hp
     have hS:=hM.stat c hc
     obtain ⟨dn,todo,ho,as,E,st,hsim,hk⟩:=hA c hc ((List.prefix_append h [i]).trans hp)
     obtain ⟨dn',todo',as',st',ho',h',hk',hc'⟩:=zJM hS hal todo dn as st ho hsim hk
     have hX:∀q∈exOf c.seq,q.2=i→q.1<ops.size∧listed.getD q.1 true=true:=by
      rintro ⟨p,q⟩ hq rfl
      obtain ⟨l1,l2,e⟩:=zMy hq
      simp only at e
      obtain ⟨r,hr⟩:=hp
      have hnd:=hM.nodup c hc
      have hin:p∈h:=by
       rw [←hr] at e hnd
       simp only [List.append_assoc,List.singleton_append] at e hnd
       rcases List.append_eq_append_iff.1 e with ⟨as',e1,e2⟩ | ⟨bs',e1,e2⟩
       ·cases as' with
        | nil=>simp at e2;exact absurd (by rw [e2.2];simp:q∈r) (by simp [List.nodup_append] at hnd;exact fun h=>hnd.2.1.1 h)
        | cons z zs=>
         simp only [List.cons_append,List.cons.injEq] at e2
         have:q∈r:=by rw [e2.2];simp
         exact absurd this (by simp [List.nodup_append] at hnd;exact fun h=>hnd.2.1.1 h)
       ·cases bs' with
        | nil=>simp at e2;exact absurd (by rw [←e2.2];simp:q∈r) (by simp [List.nodup_append] at hnd;exact fun h=>hnd.2.1.1 h)
        | cons z zs=>
         simp only [List.cons_append,List.cons.injEq] at e2
         rw [e1,←e2.1];simp
      have hps:p∈sy:=(hM.all c hc p).1 (by rw [e];simp)
      exact ⟨hS.lt (p,true) ((zLO (hM.seq c hc)).2 ((hM.all c hc p).2 hps)),(hl p hps).2 hin⟩
     have hic:(i,true)∈c.ord:=(zLO (hM.seq c hc)).2 ((hM.all c hc i).2 hsy)
     have hid:(i,true)∉dn':=fun hc=>by rw [h'.sync i hc] at hun;cases hun
     have hit:(i,true)∈todo':=by rw [ho'] at hic;exact (List.mem_append.1 hic).resolve_left hid
     rcases hc' with rfl | ⟨e,r,rfl⟩
     ·simp at hit
     ·have hie:i=e:=by
       rcases List.mem_cons.1 hit with hit | hit
       ·cases hit;rfl
       ·exfalso
        have hcl:=zEp hS.closed hX hlt h'.closed hpr hS.tbn
        have hok:=hS.ok
        rw [ho'] at hok
        have h3:=((zCg hok).1 _ hit).2.2.1 rfl
        have hlt':=hS.lt (e,true) (by rw [ho'];simp)
        exact zFH hS ho' (h'.sub e hlt' (hcl e h3))
      subst hie
      exact ⟨dn',r,as',E,st',ho',h',hk',hX⟩
    have hl':∀j∈sy,(listed.setIfInBounds i true).getD j true=true↔j∈h++[i]:=by
     intro j hj
     rw [zBX,hl j hj];simp
    have rest:∀a' w',(∀c∈cs,h++[i] <+: c.seq→zRI P N E0 w0 d0 ops al K c (listed.setIfInBounds i true) a' w')→wpAny P .any ops Q fuel (listed.setIfInBounds i true) a' w':=fun a' w' hA'=>ih _ _ _ _ ⟨c1,hc1,hp1⟩ hl' hA' (by omega)
    have how:=hM.one c0 hc0 h.length hp0.length_le i hlt
    rw [zSy,(List.prefix_iff_eq_take.1 hp0).symm] at how
    simp only [Bool.or_eq_true,decide_eq_true_eq] at how
    rcases how with (how | how) | how
    ·simp [(hM.all c0 hc0 i).2 hsy] at how
    ·
     obtain ⟨dn,r,as,E,st,ho,hsim,hk,hX⟩:=each c1 hc1 hp1
     refine wpOp_mono (fun a' w' hB=> ?_) (hsim.syncs (hM.stat c1 hc1) ho hX hi hal hk).1
     refine rest a' w' fun c hc hp=> ?_
     have:c=c1:=by
      have m1:c∈cs.filter fun c'=>(h++[i]).isPrefixOf c'.seq:=List.mem_filter.2 ⟨hc,List.isPrefixOf_iff_prefix.2 hp⟩
      have m2:c1∈cs.filter fun c'=>(h++[i]).isPrefixOf c'.seq:=List.mem_filter.2 ⟨hc1,List.isPrefixOf_iff_prefix.2 hp1⟩
      generalize (cs.filter fun c'=>(h++[i]).isPrefixOf c'.seq)=l at how m1 m2
      match l,how,m1,m2 with
      | [x],_,m1,m2=>simp at m1 m2;rw [m1,m2]
      | x::y::l,how,_,_=>simp at how
     subst this
     exact ⟨dn++[(i,true)],r,by rw [ho];simp,hB⟩
    ·
     obtain ⟨dn,r,as,E,st,ho,hsim,hk,hX⟩:=each c1 hc1 hp1
     obtain ⟨a',w',hst,_⟩:=(hsim.syncs (Q:=Q) (hM.stat c1 hc1) ho hX hi hal hk).2 how
     refine hst.wp (rest a' w' fun c hc hp=> ?_)
     obtain ⟨dn,r,as,E,st,ho,hsim,hk,hX⟩:=each c hc hp
     obtain ⟨a2,w2,hst2,hB⟩:=(hsim.syncs (Q:=Q) (hM.stat c hc) ho hX hi hal hk).2 how
     obtain ⟨rfl,rfl⟩:=hst.det hst2
     exact ⟨dn++[(i,true)],r,by rw [ho];simp,hB⟩
   ·
    have each:∀c∈cs,h <+: c.seq→∃a',zGs P ops i a w a' w∧zRI P N E0 w0 d0 ops al K c (listed.setIfInBounds i true) a' w:=by
     intro c hc hp
     have hS:=hM.stat c hc
     obtain ⟨dn,todo,ho,as,E,st,hsim,hk⟩:=hA c hc hp
     obtain ⟨dn',todo',as',st',ho',h',hk',hc'⟩:=zJM hS hal todo dn as st ho hsim hk
     have hX:∀q∈exOf c.seq,q.2=i→q.1<ops.size∧listed.getD q.1 true=true:=by
      rintro ⟨p,q⟩ hq rfl
      obtain ⟨l1,l2,e⟩:=zMy hq
      exact absurd ((hM.all c hc q).1 (by rw [e];simp)) hsy
     have hcl:=zEp hS.closed hX hlt h'.closed hpr hS.tbn
     obtain ⟨s,hs⟩:=zFf (hS.cover i hlt)
     have hsf:s=false:=by
      cases s with
      | false=>rfl
      | true=>exact absurd ((hM.all c hc i).1 ((zLO (hM.seq c hc)).1 hs)) hsy
     subst hsf
     have hid:(i,false)∈dn':=by
      rw [ho'] at hs
      rcases List.mem_append.1 hs with hs | hs
      ·exact hs
      ·exfalso
       rcases hc' with rfl | ⟨e,r,rfl⟩
       ·simp at hs
       ·rcases List.mem_cons.1 hs with hs | hs
        ·cases hs
        ·have hok:=hS.ok
         rw [ho'] at hok
         have h3:=((zCg hok).1 _ hs).2.2.1 rfl
         have hlt':=hS.lt (e,true) (by rw [ho'];simp)
         exact zFH hS ho' (h'.sub e hlt' (hcl e h3))
     obtain ⟨a',h1,h2⟩:=h'.pickTo hS ⟨todo',ho'⟩ hX hid hi hN
     exact ⟨a',h1,dn',todo',ho',as',E,st',h2,hk'⟩
    obtain ⟨a',hst,_⟩:=each c0 hc0 hp0
    refine hst.wp (ih h _ a' w ⟨c0,hc0,hp0⟩ (fun j hj=> ?_) (fun c hc hp=> ?_) (by omega))
    ·rw [zBX,hl j hj]
     exact ⟨fun h=>h.resolve_right (fun e=>hsy (by rw [←e];exact hj)), .inl⟩
    ·obtain ⟨a2,hst2,hB⟩:=each c hc hp
     obtain ⟨rfl,_⟩:=hst.det hst2
     exact hB
end
end Go.Proofs.YtnmlihfpenjeiaaGreat.Abs
namespace Go.Proofs.YtnmlihfpenjeiaaGreat.Abs
open Go Go.RowKit
set_option linter.unusedVariables false
set_option linter.unusedSimpArgs false
def mark (D:Nat):Deferred:={ target:= .collected D,args:= #[] }
structure Mk (w0:World) (d0:List Deferred) (E:Env) (w:World) (ds:List Deferred):Prop where
 ex:∃l:List Nat,ds=l.map mark++d0∧l.Nodup∧∀D∈l,w0.heap.size≤D∧w.heap[D]? =some (.deferred (some []))∧¬Own E D
theorem Mk.nil {w0:World} {d0:List Deferred} {E:Env} {w:World}:Mk w0 d0 E w d0:=⟨[],rfl,by simp,by simp⟩
theorem Mk.step {w0:World} {d0 ds:List Deferred} {E E':Env} {w w':World} (h:Mk w0 d0 E w ds) (hs:Step E w E' w'):Mk w0 d0 E' w' ds:=by
 obtain ⟨l,h1,h2,h3⟩:=h.ex
 refine ⟨l,h1,h2,fun D hD=> ?_⟩
 obtain ⟨g1,g2,g3⟩:=h3 D hD
 have hlt:=(Array.getElem?_eq_some_iff.1 g2).1
 exact ⟨g1,(hs.frame D hlt g3).trans g2,fun ho=>(hs.own D ho).elim g3 fun h=>by omega⟩
theorem Mk.trans {w0:World} {d0 ds ds':List Deferred} {E E':Env} {w w':World} (h:Mk w0 d0 E w ds) (hle:w0.heap.size≤w.heap.size) (hs:Step E w E' w') (k:Mk w ds E' w' ds'):Mk w0 d0 E' w' ds':=by
 obtain ⟨l,h1,h2,h3⟩:=(h.step hs).ex
 obtain ⟨l0,e0,_,g0⟩:=h.ex
 obtain ⟨l',k1,k2,k3⟩:=k.ex
 have hlt:∀D∈l,D<w.heap.size:=by
  have:l=l0:=by
   rw [e0] at h1
   have:=List.append_cancel_right h1
   have inj:Function.Injective mark:=fun a b h=>by simp [mark] at h;exact h
   exact ((List.map_inj_right fun a b h=>inj h).1 this).symm
  subst this
  exact fun D hD=>(Array.getElem?_eq_some_iff.1 (g0 D hD).2.1).1
 refine ⟨l'++l,by rw [k1,h1];simp,List.nodup_append.2 ⟨k2,h2,fun a ha b hb e=> ?_⟩,fun D hD=> ?_⟩
 ·subst e
  have:=(k3 a ha).1
  have:=hlt a hb
  omega
 ·rcases List.mem_append.1 hD with hD | hD
  ·exact ⟨Nat.le_trans hle (k3 D hD).1,(k3 D hD).2⟩
  ·exact h3 D hD
structure Tld (N:Nat) (E0:Env) (w0:World) (d0:List Deferred) (E:Env) (w:World) (st:St) (a:Act):Prop where
 size:a.tmps.size=N
 defers:Mk w0 d0 E w a.defers
 valid:zAm E w
 str:StR E w st a.tmps
 step:Step E0 w0 E w
section
variable {N:Nat} {E0 E E':Env} {w0 w w':World} {d0:List Deferred} {st st':St} {a a':Act}
theorem Told.tld (h:Told N E0 w0 d0 E w st a):Tld N E0 w0 d0 E w st a:=⟨h.size,by rw [h.defers];exact Mk.nil,h.valid,h.str,h.step⟩
theorem Tld.refl (h1:a.tmps.size=N) (h2:zAm E w) (h3:StR E w st a.tmps):Tld N E w a.defers E w st a:=⟨h1,Mk.nil,h2,h3,Step.refl _ _⟩
theorem Tld.trans (h:Tld N E0 w0 d0 E w st a) (k:Tld N E w a.defers E' w' st' a'):Tld N E0 w0 d0 E' w' st' a':=
 ⟨k.size,h.defers.trans h.step.size k.step k.defers,k.valid,k.str,h.step.trans k.step⟩
theorem Tld.to (h:Tld N E0 w0 d0 E w st a) (hv:zAm E' w) (hs:StR E' w st' a.tmps) (hp:Step E w E' w):Tld N E0 w0 d0 E' w st' a:=⟨h.size,h.defers.step hp,hv,hs,h.step.trans hp⟩
theorem Tld.from {E1:Env} (hs:Step E0 w0 E1 w0) (k:Tld N E1 w0 d0 E w st a):Tld N E0 w0 d0 E w st a:=⟨k.size,k.defers,k.valid,k.str,hs.trans k.step⟩
end
inductive AC where
 | skip
 | reg (ops:List zAo)
 | draw (its:List DIt)
 | draws (l:List (List DIt))
 | seq (a b:AC)
 | cond (c:Opd) (a b:AC)
 | block (id:Nat) (a:AC)
 | loop (a:AC)
 | rng (g:Opd) (p d:Nat) (its:List DIt)
 | exit (id:Nat)
 | ret
 deriving Inhabited
def zNd (P:Program) (dr:Bool) (ops:Array Oper) (al:List zAo):Option (List DIt):=if dr then zH7 P ops al else some (al.map fun o=>⟨o,true,[]⟩)
def zVc (P:Program) (N:Nat) (ps:List Tmp) (asg body:Code):Option (Nat×Nat×List DIt):=match ps,asg,body with
 | [p], .region _ aops false, .block _ (.region id ops dr)=>match aops.toList,zAT P N ops (id*100) ops.toList with
  | [⟨some d, .assign (.tmp q),_,_,_,none⟩],some as=>if q=p∧p<N∧d<N∧p≠d then (zNd P dr ops as).bind fun its=>if (ops.toList.all fun o=>its.any fun it=>decide (it.o.dst=o.dst)) then some (p,d,its) else none else none
  | _,_=>none
 | _,_,_=>none
def zTm (P:Program) (ops:Array Oper) (al:List zAo):Option AC:=match zH7 P ops al with
 | some its=>some (.draw its)
 | none=>(zLD P ops al).map .draws
theorem zA6 {P:Program} {ops:Array Oper} {al:List zAo} {c:AC} (h:zTm P ops al=some c):(∃its,c= .draw its∧zH7 P ops al=some its)∨(∃l,c= .draws l∧zLD P ops al=some l):=by
 unfold zTm at h
 split at h
 ·rename_i its h1
  exact .inl ⟨its,(Option.some.inj h).symm,h1⟩
 ·simp only [Option.map_eq_some_iff] at h
  obtain ⟨l,h1,h2⟩:=h
  exact .inr ⟨l,h2.symm,h1⟩
def tr (P:Program) (N:Nat):Code→Option AC
 | .skip=>some .skip
 | .region id ops draw=>match zAT P N ops (id*100) ops.toList with
  | some as=>if draw then zTm P ops as else some (.reg as)
  | none=>none
 | .seq a b=>match tr P N a,tr P N b with
  | some x,some y=>some (.seq x y)
  | _,_=>none
 | .cond c a b=>match trO c,tr P N a,tr P N b with
  | some c',some x,some y=>some (.cond c' x y)
  | _,_,_=>none
 | .block id a=>(tr P N a).map (.block id)
 | .loop a=>(tr P N a).map .loop
 | .exit id=>some (.exit id)
 | .ret=>some .ret
 | .rangeFunc f ps asg body=>match trO f,zVc P N ps.toList asg body with
  | some g,some (p,d,its)=>some (.rng g p d its)
  | _,_=>none
 | _=>none
inductive Kd where
 | norm
 | exit (id:Nat)
 | ret
 deriving DecidableEq
def Kd.ex:Kd→Exit
 | .norm=> .normal
 | .exit id=> .exit id
 | .ret=> .ret
section
variable {P:Program} {N:Nat}
def Ev (P:Program) (N:Nat) (c:Code) (st:St) (Q:Kd→St→Prop):Prop:=
 ∀E w a,a.tmps.size=N→zAm E w→StR E w st a.tmps→c.wp P (fun e a' w'=>∃k st' E',e=k.ex∧Q k st'∧Tld N E w a.defers E' w' st' a') a w
def EvC (P:Program) (N:Nat) (ac:AC) (st:St) (Q:Kd→St→Prop):Prop:=∀c,tr P N c=some ac→Ev P N c st Q
theorem Ev.mono {c:Code} {st:St} {Q Q':Kd→St→Prop} (h:Ev P N c st Q) (hq:∀k s,Q k s→Q' k s):Ev P N c st Q':=fun E w a h1 h2 h3=>
 wp_mono (h E w a h1 h2 h3) fun e a' w' ⟨k,st',E',g1,g2,g3⟩=>⟨k,st',E',g1,hq _ _ g2,g3⟩
theorem EvC.mono {ac:AC} {st:St} {Q Q':Kd→St→Prop} (h:EvC P N ac st Q) (hq:∀k s,Q k s→Q' k s):EvC P N ac st Q':=fun c hc=>(h c hc).mono hq
theorem zWq {a b:Code} {st:St} {Q:Kd→St→Prop} (h:Ev P N a st fun k st'=>match k with | .norm=>Ev P N b st' Q | k=>Q k st'):Ev P N (.seq a b) st Q:=by
 intro E w act h1 h2 h3
 refine wp_seq (wp_mono (h E w act h1 h2 h3) ?_)
 rintro e a' w' ⟨k,st',E',rfl,g2,g3⟩
 cases k with
 | norm=>
  simp only [Kd.ex,Exit.then]
  refine wp_mono (g2 E' w' a' g3.size g3.valid g3.str) ?_
  rintro e a2 w2 ⟨k2,st2,E2,rfl,r2,r3⟩
  exact ⟨k2,st2,E2,rfl,r2,g3.trans r3⟩
 | exit id=>exact ⟨.exit id,st',E',rfl,g2,g3⟩
 | ret=>exact ⟨.ret,st',E',rfl,g2,g3⟩
theorem zSI {id:Nat} {c:Code} {st:St} {Q:Kd→St→Prop} (h:Ev P N c st fun k st'=>match k with | .exit i=>if i=id then Q .norm st' else Q (.exit i) st' | k=>Q k st'):Ev P N (.block id c) st Q:=by
 intro E w act h1 h2 h3
 refine wp_block (wp_mono (h E w act h1 h2 h3) ?_)
 rintro e a' w' ⟨k,st',E',rfl,g2,g3⟩
 cases k with
 | norm=>exact ⟨.norm,st',E',rfl,g2,g3⟩
 | exit i=>
  simp only [Kd.ex,Exit.inBlock]
  simp only at g2
  split
  ·rename_i hi;rw [if_pos hi] at g2;exact ⟨.norm,st',E',rfl,g2,g3⟩
  ·rename_i hi;rw [if_neg hi] at g2;exact ⟨.exit i,st',E',rfl,g2,g3⟩
 | ret=>exact ⟨.ret,st',E',rfl,g2,g3⟩
theorem zYE {ι:Type} {c:Code} (S:ι→St) (μ:ι→Nat) {Q:Kd→St→Prop} (h:∀x,Ev P N c (S x) fun k st'=>match k with | .norm=>∃y,μ y<μ x∧(∀E w tmps,zAm E w→StR E w st' tmps→∃E',zAm E' w∧StR E' w (S y) tmps∧Step E w E' w) | k=>Q k st'):
  ∀x,Ev P N (.loop c) (S x) Q:=by
 intro x E w act h1 h2 h3
 refine wp_loop_ghost (fun n a' w'=>∃y E',μ y=n∧Tld N E w act.defers E' w' (S y) a') (μ x) ⟨x,E,rfl,Tld.refl h1 h2 h3⟩ ?_
 rintro n a' w' ⟨y,E',rfl,hT⟩
 refine wp_mono (h y E' w' a' hT.size hT.valid hT.str) ?_
 rintro e a2 w2 ⟨k2,st2,E2,rfl,r2,r3⟩
 cases k2 with
 | norm=>
  simp only at r2
  obtain ⟨z,hz,hsub⟩:=r2
  obtain ⟨E3,g1,g2,g3⟩:=hsub E2 w2 a2.tmps r3.valid r3.str
  exact ⟨μ z,hz,z,E3,rfl,(hT.trans r3).to g1 g2 g3⟩
 | exit id=>exact ⟨.exit id,st2,E2,rfl,r2,hT.trans r3⟩
 | ret=>exact ⟨.ret,st2,E2,rfl,r2,hT.trans r3⟩
end
end Go.Proofs.YtnmlihfpenjeiaaGreat.Abs
