/- What comes in with a statement's call, told as data; and a statement's row from a contract. Conditions: parameters of whole numbers, bools, strings, and slices and structs of such. -/
import Derived.Test.YtnmlihfpenjeiaaGreatAbs5
import Derived.ProofKit
import Derived.OpenShut
import Derived.ShutString
import Derived.ChangeOld
import Derived.SizedLaws
import Derived.Carry
namespace Go.Proofs.YtnmlihfpenjeiaaGreat.Abs
open Go Go.RowKit Go.ChangeShapes Go.WideShapes Go.ChangeAt
set_option linter.unusedVariables false
set_option linter.unusedSimpArgs false
inductive Ty where
 | int (k:IntKind)
 | bool
 | str
 | lst (B:Nat) (t:Ty)
 | agg (ts:List Ty)
 deriving Inhabited
mutual
def Ty.ok:Ty→D→Prop
 | .int k,x=>∃n,x= .int k n∧(Lit.int k n).wf=true
 | .bool,x=>∃b,x= .bool b
 | .str,x=>∃s,x= .str s∧s.size≤140737488351232
 | .lst B t,x=>∃es,x= .lst es∧es.length*B≤140737488351232∧∀e∈es,t.ok e
 | .agg ts,x=>∃cs,x= .agg cs∧Ty.oks ts cs
def Ty.oks:List Ty→List D→Prop
 | [],xs=>xs=[]
 | t::ts,xs=>∃y ys,xs=y::ys∧t.ok y∧Ty.oks ts ys
end
def Ty.one:Ty→Bool
 | .agg _=>false
 | _=>true
def elTy (P:Program) (t:TypeId) (ts:List Ty):Option Ty:=
 match (P.underlying t).map aggT with
 | some true=>if ts.all Ty.one=true then some (.agg ts) else none
 | _=>match ts with
  | [y]=>if y.one=true then some y else none
  | _=>none
def tyFs (P:Program) (g:TypeId→Option (List Ty)):List Field→Nat→Option (List Ty)
 | [],_=>some []
 | f::r,off=>match g f.type,tyFs P g r (off+P.cellsOf f.type) with
  | some a,some b=>if f.offset=off∧a.length=P.cellsOf f.type then some (a++b) else none
  | _,_=>none
def tyOf (P:Program):Nat→TypeId→Option (List Ty)
 | 0,_=>none
 | n+1,t=>match P.underlying t with
  | some .bool=>some [.bool]
  | some (.int k)=>some [.int k]
  | some .string=>some [.str]
  | some (.slice e)=>match tyOf P n e with
   | some ts=>if ts.length=P.cellsOf e∧0<ts.length∧0<P.bytesOf e then (elTy P e ts).map fun y=>[.lst (P.bytesOf e) y] else none
   | none=>none
  | some (.struct fs)=>match tyFs P (tyOf P n) fs.toList 0 with
   | some ts=>if ts.length=P.cellsOf t then some ts else none
   | none=>none
  | _=>none
section
variable {H:Type} {enc:TypeId×Value→H} {P:Program} {w:World} {base:Nat} {spare:Nat→Bool} {held:Bool}
theorem Ty.oks_length:∀{ts:List Ty} {xs:List D},Ty.oks ts xs→xs.length=ts.length
 | [],xs,h=>by simp only [Ty.oks] at h;simp [h]
 | t::ts,xs,h=>by
  simp only [Ty.oks] at h
  obtain ⟨y,ys,rfl,_,h⟩:=h
  simp [Ty.oks_length h]
theorem Ty.oks_append:∀{ts us:List Ty} {xs ys:List D},Ty.oks ts xs→Ty.oks us ys→Ty.oks (ts++us) (xs++ys)
 | [],us,xs,ys,h,k=>by simp only [Ty.oks] at h;subst h;simpa using k
 | t::ts,us,xs,ys,h,k=>by
  simp only [Ty.oks] at h
  obtain ⟨y,zs,rfl,h1,h2⟩:=h
  simp only [List.cons_append,Ty.oks]
  exact ⟨y,_,rfl,h1,Ty.oks_append h2 k⟩
theorem Ty.oks_one {pr:Nat→Prop}:∀{ts:List Ty} {xs:List D} {vs:List Value},ts.all Ty.one=true→Ty.oks ts xs→DRs pr w xs vs→OneC vs
 | [],xs,vs,_,h,k=>by simp only [Ty.oks] at h;subst h;simp only [DRs] at k;subst k;simp [OneC]
 | t::ts,xs,vs,ha,h,k=>by
  simp only [Ty.oks] at h
  obtain ⟨y,zs,rfl,h1,h2⟩:=h
  simp only [DRs] at k
  obtain ⟨u,us,rfl,k1,k2⟩:=k
  simp only [List.all_cons,Bool.and_eq_true] at ha
  have:=Ty.oks_one ha.2 h2 k2
  intro c hc
  rcases List.mem_cons.1 hc with rfl | hc
  ·cases t with
   | int k=>simp only [Ty.ok] at h1;obtain ⟨n,rfl,_⟩:=h1;simp only [DR] at k1;subst k1;rfl
   | bool=>simp only [Ty.ok] at h1;obtain ⟨n,rfl⟩:=h1;simp only [DR] at k1;subst k1;rfl
   | str=>simp only [Ty.ok] at h1;obtain ⟨n,rfl,_⟩:=h1;simp only [DR] at k1;subst k1;rfl
   | lst B t=>
    simp only [Ty.ok] at h1;obtain ⟨n,rfl,_⟩:=h1;simp only [DR] at k1
    rcases k1 with ⟨_,a,c,rfl⟩ | ⟨b,o,cap,sz,vs,rfl,_⟩<;>rfl
   | agg ts=>simp [Ty.one] at ha
  ·exact this c hc
theorem zP1 {pr:Nat→Prop} {t:TypeId} {ts:List Ty} {y:Ty} {xs:List D} {cs:List Value} (h:elTy P t ts=some y) (h1:Ty.oks ts xs) (h2:DRs pr w xs cs):
  ∃x u,y.ok x∧DR pr w x u∧u.cells.toList=cs∧((P.underlying t).map aggT=some true→u= .agg cs.toArray):=by
 unfold elTy at h
 split at h
 ·split at h
  ·rename_i hag ha
   simp only [Option.some.injEq] at h;subst h
   exact ⟨.agg xs, .agg cs.toArray,by simp only [Ty.ok];exact ⟨xs,rfl,h1⟩,by simp only [DR];exact ⟨_,rfl,by simpa using Ty.oks_one ha h1 h2,by simpa using h2⟩,by simp [Value.cells],fun _=>rfl⟩
  ·cases h
 ·rename_i hag
  split at h
  ·split at h
   rotate_left
   ·cases h
   rename_i q hq
   simp only [Option.some.injEq] at h;subst h
   simp only [Ty.oks] at h1
   obtain ⟨x,xs',rfl,h3,rfl⟩:=h1
   simp only [DRs] at h2
   obtain ⟨u,us,rfl,h4,rfl⟩:=h2
   refine ⟨x,u,h3,h4, ?_,fun hh=>absurd hh hag⟩
   cases q with
   | int k=>simp only [Ty.ok] at h3;obtain ⟨n,rfl,_⟩:=h3;simp only [DR] at h4;subst h4;rfl
   | bool=>simp only [Ty.ok] at h3;obtain ⟨n,rfl⟩:=h3;simp only [DR] at h4;subst h4;rfl
   | str=>simp only [Ty.ok] at h3;obtain ⟨n,rfl,_⟩:=h3;simp only [DR] at h4;subst h4;rfl
   | lst B t=>
    simp only [Ty.ok] at h3;obtain ⟨n,rfl,_⟩:=h3;simp only [DR] at h4
    rcases h4 with ⟨_,a,c,rfl⟩ | ⟨b,o,cap,sz,vs,rfl,_⟩<;>rfl
   | agg ts=>simp [Ty.one] at hq
  ·cases h
theorem zWe {pr:Nat→Prop}:∀{ts:List Ty} {xs:List D} {vs:List Value},Ty.oks ts xs→DRs pr w xs vs→vs.length=ts.length:=fun h1 h2=>by
 rw [h2.length,Ty.oks_length h1]
theorem zNv {l r:List Nat} {q:Nat→Bool}:(l++r).all q=true↔l.all q=true∧r.all q=true:=by simp [List.all_append]
theorem zNQ {e:TypeId} {q:Nat→Bool}:∀{l:List (DataW H)} {d:DataW H},(DataW.weightsAll P e l).all q=true→d∈l→(d.weights P e).all q=true
 | [],d,_,h=>by simp at h
 | x::l,d,h,hd=>by
  simp only [DataW.weightsAll,zNv] at h
  rcases List.mem_cons.1 hd with rfl | hd
  ·exact h.1
  ·exact zNQ h.2 hd
theorem zR6 {a:Addr} (h:a.spot=none) (i:Nat):a.add i=⟨a.block,a.off+i,none⟩:=by
 obtain ⟨ab,ao,asp⟩:=a;simp only at h;subst h;exact Addr.add_mk ab ao i
theorem zPh {a:Addr} {n:Nat} {cs:List Value} (h:w.cells? base a n=some cs) (h0:0<cs.length):a.spot=none∧a.block<w.heap.size∧zAC w a.block a.off cs:=by
 obtain ⟨h1,h2,h3⟩:=World.cells?_some h
 have hs:a.spot=none∧a.block<w.heap.size:=by
  have h4:=h3 0 (by omega)
  rw [List.getElem?_eq_getElem h0,show a.add 0=a from by simp [Addr.add]] at h4
  unfold World.cell? at h4
  split at h4
  ·rename_i cc x y hb
   split at h4
   ·cases h4
   ·rename_i hs
    exact ⟨by simpa using hs,(Array.getElem?_eq_some_iff.1 hb).1⟩
  ·cases h4
 refine ⟨hs.1,hs.2,fun i c hi=> ?_⟩
 have hlt:=(List.getElem?_eq_some_iff.1 hi).1
 have h4:=h3 i (by omega)
 rw [hi,zR6 hs.1] at h4
 exact h4
theorem zUV {α β:Type} {P:Nat→α→β→Prop}:∀(n:Nat),(∀i,i<n→∃a b,P i a b)→∃(as:List α) (bs:List β),as.length=n∧bs.length=n∧(∀i a,as[i]? =some a→∃b,bs[i]? =some b∧P i a b)∧(∀i b,bs[i]? =some b→∃a,as[i]? =some a∧P i a b)
 | 0,_=>⟨[],[],rfl,rfl,by simp,by simp⟩
 | n+1,h=>by
  obtain ⟨as,bs,h1,h2,h3,h4⟩:=zUV n fun i hi=>h i (by omega)
  obtain ⟨a,b,hab⟩:=h n (by omega)
  refine ⟨as++[a],bs++[b],by simp [h1],by simp [h2],fun i x hx=> ?_,fun i x hx=> ?_⟩
  ·by_cases hi:i<n
   ·rw [List.getElem?_append_left (by omega)] at hx⊢
    exact h3 i x hx
   ·have:=(List.getElem?_eq_some_iff.1 hx).1
    simp at this
    have e:i=n:=by omega
    subst e
    rw [List.getElem?_append_right (by omega)] at hx⊢
    simp [h1,h2] at hx⊢
    subst hx;exact hab
  ·by_cases hi:i<n
   ·rw [List.getElem?_append_left (by omega)] at hx⊢
    exact h4 i x hx
   ·have:=(List.getElem?_eq_some_iff.1 hx).1
    simp at this
    have e:i=n:=by omega
    subst e
    rw [List.getElem?_append_right (by omega)] at hx⊢
    simp [h1,h2] at hx⊢
    subst hx;exact hab
theorem zWX {b o sz:Nat}:∀(us:List Value),(∀u∈us,u.cells.size=sz)→(∀i u,us[i]? =some u→zAC w b (o+i*sz) u.cells.toList)→zAC w b o (flat us):=by
 intro us hs h
 suffices ∀(us:List Value) (o:Nat),(∀u∈us,u.cells.size=sz)→(∀i u,us[i]? =some u→zAC w b (o+i*sz) u.cells.toList)→zAC w b o (flat us) from this us o hs h
 clear hs h us
 intro us
 induction us with
 | nil=>intro o _ _;exact zAC.nil _ _ _
 | cons u us ih=>
  intro o hs h
  have e:flat (u::us)=u.cells.toList++flat us:=by simp [flat]
  rw [e,zAC.append]
  refine ⟨by simpa using h 0 u rfl, ?_⟩
  have e2:u.cells.toList.length=sz:=by rw [Array.length_toList];exact hs u (by simp)
  rw [e2]
  refine ih _ (fun v hv=>hs v (by simp [hv])) fun i v hi=> ?_
  have:=h (i+1) v (by simpa using hi)
  rwa [show o+(i+1)*sz=o+sz+i*sz by rw [Nat.add_mul];omega] at this
theorem zXb {pr:Nat→Prop}:∀(xs:List D) (us:List Value),xs.length=us.length→(∀(i:Nat) (x:D) (u:Value),xs[i]? =some x→us[i]? =some u→DR pr w x u)→DRs pr w xs us
 | [],us,h,_=>by simp at h;simp only [DRs];exact List.eq_nil_of_length_eq_zero h.symm
 | x::xs,[],h,_=>by simp at h
 | x::xs,u::us,h,hd=>by
  simp only [DRs]
  exact ⟨u,us,rfl,hd 0 x u rfl rfl,zXb xs us (by simpa using h) fun i y v h1 h2=>hd (i+1) y v (by simpa using h1) (by simpa using h2)⟩
theorem zKB {pr:Nat→Prop} {t:TypeId} {ts:List Ty} {y:Ty} {x:D} {u v:Value} (h6:DR pr w x u) (h7:u.cells.toList=v.cells.toList) (hv:v.cells= #[v]) (h2:elTy P t ts=some y)
  (hn:¬(P.underlying t).map aggT=some true) (h5:y.ok x):u=v:=by
 have ho:y.one=true:=by
  unfold elTy at h2
  split at h2
  ·rename_i h;exact absurd h hn
  ·split at h2
   ·split at h2
    ·rename_i hq;simp only [Option.some.injEq] at h2;subst h2;exact hq
    ·cases h2
   ·cases h2
 have hu:u.cells= #[u]:=by
  cases y with
  | int k=>simp only [Ty.ok] at h5;obtain ⟨n,rfl,_⟩:=h5;simp only [DR] at h6;subst h6;rfl
  | bool=>simp only [Ty.ok] at h5;obtain ⟨n,rfl⟩:=h5;simp only [DR] at h6;subst h6;rfl
  | str=>simp only [Ty.ok] at h5;obtain ⟨n,rfl,_⟩:=h5;simp only [DR] at h6;subst h6;rfl
  | lst B t=>
   simp only [Ty.ok] at h5;obtain ⟨n,rfl,_⟩:=h5;simp only [DR] at h6
   rcases h6 with ⟨_,a,c,rfl⟩ | ⟨b,o,cap,sz,vs,rfl,_⟩<;>rfl
  | agg ts=>simp [Ty.one] at ho
 rw [hu,hv] at h7
 simpa using h7
theorem zYR:∀(m:Nat) (n:Nat) (t:TypeId) (cs:List Value) (x:DataW H×List MemPlace) (ts:List Ty),DataW.trod enc P w base spare held n t cs=some x→
  (x.1.weights P t).all (·≤reachBytes)=true→tyOf P m t=some ts→∃xs,Ty.oks ts xs∧DRs (fun b=>b<w.heap.size) w xs cs:=by
 intro m
 induction m with
 | zero=>intro n t cs x ts _ _ h;simp [tyOf] at h
 | succ m ih=>
  intro n t cs x ts ht hw hts
  unfold tyOf at hts
  cases hu:P.underlying t with
  | none=>simp [hu] at hts
  | some u=>
   rw [hu] at hts
   cases u with
   | bool=>
    simp only [Option.some.injEq] at hts;subst hts
    obtain ⟨b,rfl,_⟩:=DataW.trod_bool hu ht
    exact ⟨[.bool b],by simp [Ty.oks,Ty.ok],by simp [DRs,DR]⟩
   | int k=>
    simp only [Option.some.injEq] at hts;subst hts
    obtain ⟨b,rfl,_,hb⟩:=DataW.trod_int hu ht
    exact ⟨[.int k b],by simp [Ty.oks,Ty.ok,hb],by simp [DRs,DR]⟩
   | string=>
    simp only [Option.some.injEq] at hts;subst hts
    obtain ⟨s,rfl,rfl,hb⟩:=DataW.trod_string hu ht
    refine ⟨[.str s], ?_,by simp [DRs,DR]⟩
    simp only [DataW.weights,List.all_cons,List.all_nil,Bool.and_true,decide_eq_true_eq] at hw
    simp only [Ty.oks,Ty.ok]
    refine ⟨_,_,rfl,⟨s,rfl, ?_⟩,rfl⟩
    simpa [reachBytes] using hw
   | slice e=>
    simp only at hts
    split at hts
    ·rename_i tse hte
     split at hts
     ·rename_i hc
      obtain ⟨hc1,hc2,hc3⟩:=hc
      rw [Option.map_eq_some_iff] at hts
      obtain ⟨y,hy,rfl⟩:=hts
      rcases DataW.trod_slice hu ht with ⟨rfl,_⟩ | ⟨a,len,cap,elems,rest,n',rfl,rfl,rfl,hb,hl,hm,hlen,hel,_,_⟩
      ·exact ⟨[.lst []],by simp [Ty.oks,Ty.ok],by simp [DRs,DR]⟩
      ·simp only [DataW.weights,hu,List.all_cons,zNv,Bool.and_eq_true,decide_eq_true_eq] at hw
       obtain ⟨hw1,hw2,_⟩:=hw
       have each:∀i,i<len→∃q u,y.ok q∧DR (fun b=>b<w.heap.size) w q u∧w.cells? base (a.add (i*P.cellsOf e)) (P.cellsOf e)=some u.cells.toList∧u.cells.size=tse.length:=by
        intro i hi
        have h1:=hel i hi
        have h2:∃z,elems[i]? =some z:=⟨elems[i],List.getElem?_eq_getElem (by omega)⟩
        obtain ⟨z,hz⟩:=h2
        rw [hz,Option.bind_eq_some_iff] at h1
        obtain ⟨cs',h3,h4⟩:=h1
        have h5:(z.1.weights P e).all (·≤reachBytes)=true:=zNQ hw2 (List.mem_map_of_mem (f:=(·.1)) (List.mem_of_getElem? hz))
        obtain ⟨qs,h6,h7⟩:=ih _ _ _ _ _ h4 h5 hte
        obtain ⟨q,u,h8,h9,h10,_⟩:=zP1 hy h6 h7
        refine ⟨q,u,h8,h9,by rw [h10];exact h3, ?_⟩
        rw [←Array.length_toList,h10]
        exact zWe h6 h7
       by_cases h0:len=0
       ·subst h0
        exact ⟨[.lst []],by simp [Ty.oks,Ty.ok],by simp [DRs,DR]⟩
       obtain ⟨qs,us,g1,g2,g3,g4⟩:=zUV (P:=fun i q u=>y.ok q∧DR (fun b=>b<w.heap.size) w q u∧w.cells? base (a.add (i*P.cellsOf e)) (P.cellsOf e)=some u.cells.toList∧u.cells.size=tse.length) len each
       obtain ⟨hs1,hs2⟩:a.spot=none∧a.block<w.heap.size:=by
        obtain ⟨q,u,k1,k2,k3,k4⟩:=each 0 (by omega)
        rw [Nat.zero_mul,show a.add 0=a from by simp [Addr.add]] at k3
        obtain ⟨j1,j2,_⟩:=zPh k3 (by rw [Array.length_toList,k4];omega)
        exact ⟨j1,j2⟩
       have hspot:∀i,i<len→∀u:Value,w.cells? base (a.add (i*P.cellsOf e)) (P.cellsOf e)=some u.cells.toList→u.cells.size=tse.length→zAC w a.block (a.off+i*P.cellsOf e) u.cells.toList:=by
        intro i hi u h1 h2
        rw [zR6 hs1] at h1
        exact (zPh h1 (by rw [Array.length_toList,h2];omega)).2.2
       refine ⟨[.lst qs], ?_, ?_⟩
       ·simp only [Ty.oks,Ty.ok]
        refine ⟨_,_,rfl,⟨qs,rfl, ?_, ?_⟩,rfl⟩
        ·rw [g1]
         simp only [List.length_map,hlen] at hw1
         have:len*P.bytesOf e≤(len+rest.length)*P.bytesOf e:=Nat.mul_le_mul_right _ (by omega)
         simp only [reachBytes] at hw1
         omega
        ·intro q hq
         obtain ⟨i,hi⟩:=List.getElem?_of_mem hq
         obtain ⟨u,k1,k2⟩:=g3 i q hi
         exact k2.1
       ·simp only [DRs,DR]
        refine ⟨_,_,rfl, .inr ⟨a.block,a.off,cap,tse.length,us, ?_,by omega,hs2, ?_, ?_, ?_⟩,rfl⟩
        ·rw [g1];obtain ⟨ab,ao,asp⟩:=a;simp only at hs1;subst hs1;rfl
        ·intro u hu
         obtain ⟨i,hi⟩:=List.getElem?_of_mem hu
         obtain ⟨q,k1,k2⟩:=g4 i u hi
         exact k2.2.2.2
        ·refine zWX (sz:=tse.length) us (fun u hu=> ?_) fun i u hi=> ?_
         ·obtain ⟨i,hi⟩:=List.getElem?_of_mem hu
          obtain ⟨q,k1,k2⟩:=g4 i u hi
          exact k2.2.2.2
         ·obtain ⟨q,k1,k2⟩:=g4 i u hi
          have hlt:i<len:=by have:=(List.getElem?_eq_some_iff.1 hi).1;omega
          have:=hspot i hlt u k2.2.2.1 k2.2.2.2
          rwa [←hc1] at this
        ·exact zXb qs us (by omega) fun i q u h1 h2=>by
          obtain ⟨u',k1,k2⟩:=g3 i q h1
          rw [h2] at k1;cases k1
          exact k2.2.1
     ·cases hts
    ·cases hts
   | struct fs=>
    simp only at hts
    split at hts
    ·rename_i ts' hfs
     split at hts
     ·rename_i hlen
      simp only [Option.some.injEq] at hts;subst hts
      obtain ⟨xs,n',rfl,rfl,hl,hx,hf⟩:=DataW.trod_struct hu ht
      simp only [DataW.weights,hu] at hw
      have key:∀(gs:List Field) (off k:Nat) (us:List Ty),fs.toList.drop k=gs→tyFs P (tyOf P m) gs off=some us→
        (DataW.weightsEach P (gs.map (·.type)) ((xs.map (·.1)).drop k)).all (·≤reachBytes)=true→off+us.length=cs.length→
        ∃ys,Ty.oks us ys∧DRs (fun b=>b<w.heap.size) w ys (cs.drop off):=by
       intro gs
       induction gs with
       | nil=>
        intro off k us _ h1 _ h2
        simp only [tyFs,Option.some.injEq] at h1;subst h1
        exact ⟨[],by simp [Ty.oks],by simp at h2;simp [DRs,h2]⟩
       | cons f r ihr=>
        intro off k us hk h1 hw h2
        simp only [tyFs] at h1
        split at h1
        ·rename_i a b h3 h4
         split at h1
         ·rename_i h5
          simp only [Option.some.injEq] at h1;subst h1
          have hk':k<fs.toList.length:=by
           rcases Nat.lt_or_ge k fs.toList.length with h | h
           ·exact h
           ·rw [List.drop_eq_nil_of_le h] at hk;cases hk
          have hfk:fs[k]? =some f:=by
           have:fs.toList[k]? =some f:=by
            have:=congrArg List.head? hk
            rwa [List.head?_drop] at this
           simpa using this
          have hkr:fs.toList.drop (k+1)=r:=by
           have:=congrArg List.tail hk
           rwa [List.tail_drop] at this
          obtain ⟨x,hxk⟩:∃x,xs[k]? =some x:=⟨xs[k]'(by simp at hk';omega),List.getElem?_eq_getElem _⟩
          have h6:=hf k f hfk
          rw [hxk] at h6
          have hdrop:(xs.map (·.1)).drop k=x.1::(xs.map (·.1)).drop (k+1):=by
           rw [List.drop_eq_getElem_cons (by simp;simp at hk';omega)]
           congr 1
           have:=List.getElem?_eq_some_iff.1 hxk
           simp [this.2]
          rw [hdrop] at hw
          simp only [List.map_cons,DataW.weightsEach,zNv] at hw
          obtain ⟨ys,k1,k2⟩:=ih _ _ _ _ _ h6 hw.1 h3
          simp only [List.length_append] at h2
          obtain ⟨zs,k3,k4⟩:=ihr (off+P.cellsOf f.type) (k+1) b hkr h4 hw.2 (by omega)
          refine ⟨ys++zs,Ty.oks_append k1 k3, ?_⟩
          rw [h5.1] at k2
          have e:cs.drop off=(cs.drop off).take (P.cellsOf f.type)++cs.drop (off+P.cellsOf f.type):=by
           rw [←List.drop_drop,List.take_append_drop]
          rw [e]
          exact k2.append k4
         ·cases h1
        ·cases h1
      obtain ⟨ys,k1,k2⟩:=key fs.toList 0 0 ts' rfl hfs (by simpa using hw) (by rw [Nat.zero_add,hlen,hl])
      exact ⟨ys,k1,by simpa using k2⟩
     ·cases hts
    ·cases hts
   | _=>simp at hts
def zVp (P:Program) (t:TypeId):Option Ty:=(tyOf P 12 t).bind (elTy P t)
theorem zZA {t:TypeId} {v:Value} {d:DataW H} {ps:List MemPlace} {base':Nat} {y:Ty} (h:DataW.Trod enc P w base spare held t v d ps) (hv:Value.okWide P w .any base' t v)
  (hw:(d.weights P t).all (·≤reachBytes)=true) (hy:zVp P t=some y):∃x,y.ok x∧DR (fun b=>b<w.heap.size) w x v:=by
 obtain ⟨n,hn⟩:=h
 unfold zVp at hy
 rw [Option.bind_eq_some_iff] at hy
 obtain ⟨ts,h1,h2⟩:=hy
 obtain ⟨xs,h3,h4⟩:=zYR _ _ _ _ _ _ hn hw h1
 obtain ⟨x,u,h5,h6,h7,h8⟩:=zP1 h2 h3 h4
 refine ⟨x,h5, ?_⟩
 have key:u=v:=by
  unfold tyOf at h1
  cases hu:P.underlying t with
  | none=>simp [hu] at h1
  | some q=>
   rw [hu] at h1
   cases q with
   | struct fs=>
    obtain ⟨cs,rfl,_⟩:=okWide_struct hu hv
    have:=h8 (by simp [hu,aggT])
    rw [this]
    simp [Value.cells]
   | bool=>
    obtain ⟨b,rfl⟩:=okWide_bool hu hv
    have:=zKB h6 h7 (by simp [Value.cells]) h2 (by simp [hu,aggT]) h5
    exact this
   | int k=>
    obtain ⟨b,rfl⟩:=okWide_int hu hv
    exact zKB h6 h7 (by simp [Value.cells]) h2 (by simp [hu,aggT]) h5
   | string=>
    obtain ⟨b,rfl⟩:=okWide_string hu hv
    exact zKB h6 h7 (by simp [Value.cells]) h2 (by simp [hu,aggT]) h5
   | slice e=>
    obtain ⟨a,l,c,rfl⟩:=okWide_slice hu hv
    exact zKB h6 h7 (by simp [Value.cells]) h2 (by simp [hu,aggT]) h5
   | _=>simp at h1
 rw [←key];exact h6
def zLj (P:Program):List TypeId→Option (List Ty)
 | []=>some []
 | t::ts=>match zVp P t,zLj P ts with
  | some y,some ys=>some (y::ys)
  | _,_=>none
theorem zUv:∀{ts:List TypeId} {vs:List Value} {ds:List (DataW H)} {ps:List MemPlace} {base':Nat} {ys:List Ty},DataW.TrodAll enc P w base spare held ts vs ds ps→
  (∀(j:Nat) t v,ts[j]? =some t→vs[j]? =some v→Value.okWide P w .any base' t v)→(DataW.weightsEach P ts ds).all (·≤reachBytes)=true→zLj P ts=some ys→
  ∃xs,Ty.oks ys xs∧DRs (fun b=>b<w.heap.size) w xs vs
 | [],[],[],ps,base',ys,h,hv,hw,hy=>by
  simp only [zLj,Option.some.injEq] at hy;subst hy
  exact ⟨[],by simp [Ty.oks],by simp [DRs]⟩
 | t::ts,v::vs,d::ds,ps,base',ys,h,hv,hw,hy=>by
  obtain ⟨p,q,h1,h2,_⟩:=h
  simp only [zLj] at hy
  split at hy
  ·rename_i y ys' g1 g2
   simp only [Option.some.injEq] at hy;subst hy
   simp only [DataW.weightsEach,zNv] at hw
   obtain ⟨x,k1,k2⟩:=zZA h1 (hv 0 t v rfl rfl) hw.1 g1
   obtain ⟨xs,k3,k4⟩:=zUv h2 (fun j t v h3 h4=>hv (j+1) t v (by simpa using h3) (by simpa using h4)) hw.2 g2
   exact ⟨x::xs,by simp only [Ty.oks];exact ⟨x,xs,rfl,k1,k3⟩,by simp only [DRs];exact ⟨v,vs,rfl,k2,k4⟩⟩
  ·cases hy
 | [],[],_::_,_,_,_,h,_,_,_=>h.elim
 | [],_::_,_,_,_,_,h,_,_,_=>by cases h
 | _::_,[],_,_,_,_,h,_,_,_=>by cases h
 | _::_,_::_,[],_,_,_,h,_,_,_=>h.elim
theorem zM7 (hl:laidOutB P=true) {w':World} (hb:Below w.heap.size w w'):∀{ts:List TypeId} {vs:List Value} {ds:List (DataW H)} {ps:List MemPlace},ts.all (fun t=>P.readableRec t&&decide (t<P.types.size))=true→
  DataW.TrodAll enc P w 0 (fun _=>true) true ts vs ds ps→DataW.TrodAll enc P w' 0 (fun b=>decide (b<w.heap.size)) true ts vs ds ps
 | [],[],[],ps,_,h=>h
 | t::ts,v::vs,d::ds,ps,hr,h=>by
  obtain ⟨p,q,h1,h2,rfl⟩:=h
  simp only [List.all_cons,Bool.and_eq_true,decide_eq_true_eq] at hr
  exact ⟨p,q,Below.trod hl hr.1.1 hr.1.2 h1 hb (by obtain ⟨m,hm⟩:=h1;exact DataW.trod_lt m _ _ _ hm),zM7 hl hb (by simpa using hr.2) h2,rfl⟩
 | [],[],_::_,_,_,h=>h.elim
 | [],_::_,_,_,_,h=>by cases h
 | _::_,[],_,_,_,h=>by cases h
 | _::_,_::_,[],_,_,h=>h.elim
theorem zGB:∀{ts:List TypeId} {vs:List Value} {ds:List (DataW H)} {ps:List MemPlace},DataW.TrodAll enc P w base spare held ts vs ds ps→vs.length=ts.length∧ds.length=ts.length
 | [],[],[],ps,h=>⟨rfl,rfl⟩
 | t::ts,v::vs,d::ds,ps,h=>by
  obtain ⟨p,q,h1,h2,_⟩:=h
  have:=zGB h2
  simp [this.1,this.2]
 | [],[],_::_,_,h=>h.elim
 | [],_::_,_,_,h=>by cases h
 | _::_,[],_,_,h=>by cases h
 | _::_,_::_,[],_,h=>h.elim
end
theorem zXU {H:Type} {enc:TypeId×Value→H} {C:Checked} {os:Os} {f:FuncId} {fn:Func} {s:ChangeSpec} {conds:List PathCond} {tb:TypeId} {ys:List Ty} (own:ownKnob C.prog.godebug=none) (started:os.Started)
  (noInit:C.prog.inits.idxOf? f=none) (hfn:C.prog.funcs[f]? =some fn)
  (witness:∃(w:World) (tape:Tape) (i:Input),w.os=os∧(w.forCall tape i).Shaped C.prog∧i.vars=[]∧Input.okWide C.prog (w.forCall tape i) .any w.heap.size f i∧
   s.pre6 enc C.prog fn conds false (w.forCall tape i).memory i.args∧({}:Assume).holds C.prog (lone (Frame.enter C.prog f i.args .normal) [] (w.forCall tape i)))
  (hvars:s.vars=[]) (hr:fn.resultTypes= #[tb]) (hb:C.prog.underlying tb=some .bool) (hlaid:laidOutB C.prog=true)
  (hts:fn.params.toList.all (fun t=>C.prog.readableRec t&&decide (t<C.prog.types.size))=true) (hys:zLj C.prog fn.params.toList=some ys)
  (hs:∀ds:List (DataW H),ds.length=fn.params.toList.length→s.fn H ds={ results:=[.lit (.bool true)],args:=ds })
  (law:∀xs,Ty.oks ys xs→EvF C.prog f xs (.d (.bool true))):
  ReturnsInHanded {} C os f .any (s.pre6 enc C.prog fn conds false) (s.post enc C.prog fn false true false false):=by
 refine returnsInHanded_of_change_sized own started noInit hfn witness ?_
 intro W base args ds gs before hval hW _ hsz _
 have hW':=hW
 obtain ⟨p,q,hA,hV,rfl,hfz,hnd⟩:=hW
 rw [hvars] at hV
 obtain ⟨rfl,rfl⟩:=trodVars_none hV
 have e1:s.plain.varTypes C.prog=[]:=by simp [DataSpec.varTypes,ChangeSpec.plain,hvars]
 rw [e1,List.append_nil,List.append_nil] at hsz
 obtain ⟨xs,h1,h2⟩:=zUv hA (fun j t v h3 h4=>hval j t v (by simpa using h3) (by simpa using h4)) hsz hys
 refine ((law xs h1).2 (fun b=>b<W.heap.size) W args (fun b h=>h) h2).mono fun e W' he=> ?_
 obtain ⟨v,E',rfl,_,h3,bel,_⟩:=he
 simp only [VR,DR] at h3;subst h3
 refine ⟨_,rfl,ds,[],_,[],p,[],hW', ?_, ?_, ?_,bel.frame _,fun h=>by cases h⟩
 ·rw [List.append_nil,hs ds (zGB hA).2]
  simp only [hr]
  exact trodAll_mk1 (shut_bool hb _)
 ·rw [List.append_nil,hs ds (zGB hA).2]
  exact zM7 hlaid bel.toBelow hts hA
 ·rw [hvars]
  rw [List.append_nil,hs ds (zGB hA).2]
  exact rfl
end Go.Proofs.YtnmlihfpenjeiaaGreat.Abs
