/- Abstract states for walks: pure data, values with owned rows and boxes, and what it means that a machine's state is told by one. Conditions: none. -/
import Derived.WalkKit
import Derived.Below
import Derived.KernelRfl
import Derived.WalkLawsBesides
import Derived.Laws.Cover2
import Derived.Laws.FloatArith
import Derived.ChangeKeysEq
import Derived.MapKept
namespace Go.Proofs.YtnmlihfpenjeiaaGreat.Abs
open Go Go.RowKit
set_option linter.unusedVariables false
inductive Tg where
 | s (n:Nat)
 | h (n:Nat)
 | up (t:Tg)
 deriving DecidableEq,Inhabited
def Tg.isM:Tg→Bool
 | .s j=>j % 16==14
 | .h j=>j % 16==14
 | .up t=>t.isM
inductive D where
 | bool (b:Bool)
 | int (k:IntKind) (n:Int)
 | flt (k:FloatKind) (n:Nat)
 | str (s:ByteArray)
 | lst (es:List D)
 | agg (cs:List D)
 | ifc (t:Nat) (x:D)
 | nilif
 | nilptr
 | nilfn
 | nilmap
 | clo (fn:Fn) (first captured:List D)
 | cp (cs:List D) (off:Nat)
 | mp (l:List (Int×Bool))
 deriving Inhabited
def D.sz:D→Nat
 | .agg cs=>cs.length
 | _=>1
def D.cells:D→List D
 | .agg cs=>cs
 | x=>[x]
inductive PV where
 | unk
 | d (x:D)
 | nils
 | sl (t:Tg) (sz off:Nat) (es:List D)
 | ptr (k:Tg) (off:Nat)
 | ep (t:Tg) (sz idx:Nat) (f:Option Nat) (e:Option D)
 | agg (cs:List PV)
 | clo (fn:Fn) (first captured:List PV)
 | ifc (t:Nat) (x:PV)
 | tup (vs:List PV)
 deriving Inhabited
mutual
def PV.tags:PV→List Tg
 | .unk=>[]
 | .d _=>[]
 | .nils=>[]
 | .sl t _ _ _=>[t]
 | .ptr k _=>[k]
 | .ep t _ _ _ _=>[t]
 | .agg cs=>PV.tagsL cs
 | .clo _ a b=>PV.tagsL a++PV.tagsL b
 | .ifc _ x=>x.tags
 | .tup vs=>PV.tagsL vs
def PV.tagsL:List PV→List Tg
 | []=>[]
 | x::xs=>x.tags++PV.tagsL xs
end
mutual
def PV.toD:PV→Option D
 | .unk=>none
 | .d x=>some x
 | .nils=>some (.lst [])
 | .sl _ _ _ es=>some (.lst es)
 | .ptr _ _=>none
 | .ep _ _ _ _ _=>none
 | .agg cs=>(PV.toDL cs).map .agg
 | .clo fn a b=>match PV.toDL a,PV.toDL b with
  | some a',some b'=>some (.clo fn a' b')
  | _,_=>none
 | .ifc t x=>x.toD.map (.ifc t)
 | .tup _=>none
def PV.toDL:List PV→Option (List D)
 | []=>some []
 | x::xs=>match x.toD,PV.toDL xs with
  | some y,some ys=>some (y::ys)
  | _,_=>none
end
def boxV (k:Tg) (b off:Nat):Value:=bif k.isM then .map (some b) else .pointer (some ⟨b,off,none⟩)
theorem zFg {k:Tg} {b off:Nat} (h:k.isM=false):boxV k b off= .pointer (some ⟨b,off,none⟩):=by simp [boxV,h]
theorem zIK {k:Tg} {b off:Nat} (h:k.isM=true):boxV k b off= .map (some b):=by simp [boxV,h]
theorem zXg {k k':Tg} {b off:Nat} (h:k.isM=k'.isM):boxV k b off=boxV k' b off:=by simp [boxV,h]
def Unfz (c:Array Value) (fr:Nat×Nat):Prop:=fr.2=fr.1∨c.size≤fr.1
def zAC (w:World) (b o:Nat) (cs:List Value):Prop:=
 ∀i c,cs[i]? =some c→w.cell? ⟨b,o+i,none⟩=some c
def OneC (vs:List Value):Prop:=∀c∈vs,c.oneCell'=true
def flat (vs:List Value):List Value:=vs.flatMap fun u=>u.cells.toList
def mpV (l:List (Int×Bool)):Value:= .iface 0 (.agg (l.map fun e=>Value.agg #[.int .i64 e.1, .bool e.2]).toArray)
theorem zU6:∀{l l':List (Int×Bool)},(l.map fun e=>Value.agg #[.int .i64 e.1, .bool e.2])=(l'.map fun e=>Value.agg #[.int .i64 e.1, .bool e.2])→l=l'
 | [],[],_=>rfl
 | [],_::_,h=>by simp at h
 | _::_,[],h=>by simp at h
 | (a,b)::l,(a',b')::l',h=>by
  simp only [List.map_cons,List.cons.injEq,Value.agg.injEq,Array.mk.injEq,Value.int.injEq,Value.bool.injEq,true_and,and_true] at h
  obtain ⟨⟨rfl,rfl⟩,h2⟩:=h
  rw [zU6 h2]
theorem zYK {l l':List (Int×Bool)} (h:mpV l=mpV l'):l=l':=by
 unfold mpV at h
 simp only [Value.iface.injEq,Value.agg.injEq,true_and] at h
 exact zU6 (by simpa using congrArg Array.toList h)
mutual
def DR (pr:Nat→Prop) (w:World):D→Value→Prop
 | .bool b,v=>v= .bool b
 | .int k n,v=>v= .int k n
 | .flt k n,v=>v= .float k n
 | .str s,v=>v= .string s
 | .lst es,v=>(es=[]∧∃a c,v= .slice a 0 c)∨
  ∃(b o cap sz:Nat) (vs:List Value),v= .slice (some ⟨b,o,none⟩) es.length cap∧es.length≤cap∧pr b∧
   (∀u∈vs,u.cells.size=sz)∧zAC w b o (flat vs)∧DRs pr w es vs
 | .agg cs,v=>∃arr:Array Value,v= .agg arr∧OneC arr.toList∧DRs pr w cs arr.toList
 | .ifc t x,v=>∃u,v= .iface t u∧DR pr w x u
 | .nilif,v=>v= .nilIface
 | .nilptr,v=>v= .pointer none
 | .nilfn,v=>v= .nilFunc
 | .nilmap,v=>v= .map none
 | .clo fn a b,v=>∃fa fb:Array Value,v= .func fn fa fb∧DRs pr w a fa.toList∧DRs pr w b fb.toList
 | .cp cs f,v=>∃(b o:Nat) (vs:List Value),v= .pointer (some ⟨b,o+f,none⟩)∧pr b∧OneC vs∧zAC w b o vs∧DRs pr w cs vs
 | .mp l,v=>v=mpV l
def DRs (pr:Nat→Prop) (w:World):List D→List Value→Prop
 | [],vs=>vs=[]
 | x::xs,vs=>∃u us,vs=u::us∧DR pr w x u∧DRs pr w xs us
end
structure Env where
 row:Tg→Option (Nat×Nat)
 box:Tg→Option Nat
 prot:Nat→Prop
mutual
def VR (E : Env) (w : World) : PV → Value → Prop
  | .unk, _ => True
  | .d x, v => DR E.prot w x v
  | .nils, v => v = .slice none 0 0
  | .sl t sz off es, v => (es = [] ∧ ∃ a, v = .slice a 0 0) ∨
      ∃ (b o cap : Nat) (c : Array Value) (el : TypeId) (fr : Nat × Nat) (vs : List Value), E.row t = some (b, o) ∧ v = .slice (some ⟨b, o + off * sz, none⟩) es.length cap ∧ es.length ≤ cap ∧
        w.heap[b]? = some (.cells c el fr) ∧ Unfz c fr ∧ o + (off + cap) * sz ≤ c.size ∧
        (∀ u ∈ vs, u.cells.size = sz) ∧ zAC w b (o + off * sz) (flat vs) ∧ DRs E.prot w es vs
  | .ptr k off, v => ∃ b, E.box k = some b ∧ v = boxV k b off
  | .ep t sz idx f e, v => ∃ (b o : Nat) (c : Array Value) (el : TypeId) (fr : Nat × Nat), E.row t = some (b, o) ∧ v = .pointer (some ⟨b, o + idx * sz + f.getD 0, none⟩) ∧
        w.heap[b]? = some (.cells c el fr) ∧ Unfz c fr ∧ o + idx * sz + sz ≤ c.size ∧
        (∀ x, e = some x → ∃ u, DR E.prot w x u ∧ u.cells.size = sz ∧ zAC w b (o + idx * sz) u.cells.toList)
  | .agg cs, v => ∃ arr : Array Value, v = .agg arr ∧ OneC arr.toList ∧ VRs E w cs arr.toList
  | .clo fn a b, v => ∃ fa fb : Array Value, v = .func fn fa fb ∧ VRs E w a fa.toList ∧ VRs E w b fb.toList
  | .ifc t x, v => ∃ u, v = .iface t u ∧ VR E w x u
  | .tup xs, v => ∃ arr : Array Value, v = .tuple arr ∧ VRs E w xs arr.toList
def VRs (E:Env) (w:World):List PV→List Value→Prop
 | [],vs=>vs=[]
 | x::xs,vs=>∃u us,vs=u::us∧VR E w x u∧VRs E w xs us
end
theorem zAC.mono {w w':World} {b o:Nat} {cs:List Value} (h:zAC w b o cs) (hb:w'.heap[b]? =w.heap[b]?):zAC w' b o cs:=by
 intro i c hc
 rw [World.cell?_of_block (w:=w) (w':=w') (a:=⟨b,o+i,none⟩) hb]
 exact h i c hc
theorem zAC.nil (w:World) (b o:Nat):zAC w b o []:=by intro i c h;simp at h
theorem zAC.append {w:World} {b o:Nat} {xs ys:List Value}:zAC w b o (xs++ys)↔zAC w b o xs∧zAC w b (o+xs.length) ys:=by
 constructor
 ·intro h
  refine ⟨fun i c hc=>h i c ?_,fun i c hc=> ?_⟩
  ·have hi:=(List.getElem?_eq_some_iff.1 hc).1
   rw [List.getElem?_append_left hi];exact hc
  ·have:=h (xs.length+i) c (by rw [List.getElem?_append_right (by omega)];simpa using hc)
   rwa [←Nat.add_assoc] at this
 ·rintro ⟨h1,h2⟩ i c hc
  by_cases hi:i<xs.length
  ·rw [List.getElem?_append_left hi] at hc;exact h1 i c hc
  ·rw [List.getElem?_append_right (by omega)] at hc
   have:=h2 _ c hc
   rwa [show o+xs.length+(i-xs.length)=o+i from by omega] at this
mutual
theorem DR.mono {pr pr':Nat→Prop} {w w':World} (hp:∀b,pr b→pr' b) (hw:∀b,pr b→w'.heap[b]? =w.heap[b]?):
  ∀(x:D) (v:Value),DR pr w x v→DR pr' w' x v
 | .bool b,v,h=>by simpa only [DR] using h
 | .int k n,v,h=>by simpa only [DR] using h
 | .flt k n,v,h=>by simpa only [DR] using h
 | .str s,v,h=>by simpa only [DR] using h
 | .lst es,v,h=>by
  simp only [DR] at h⊢
  rcases h with h | ⟨b,o,cap,sz,vs,h1,h2,h3,h4,h5,h6⟩
  ·exact .inl h
  ·exact .inr ⟨b,o,cap,sz,vs,h1,h2,hp b h3,h4,h5.mono (hw b h3),DRs.mono hp hw es vs h6⟩
 | .agg cs,v,h=>by
  simp only [DR] at h⊢
  obtain ⟨arr,h1,h0,h2⟩:=h
  exact ⟨arr,h1,h0,DRs.mono hp hw cs _ h2⟩
 | .ifc t x,v,h=>by
  simp only [DR] at h⊢
  obtain ⟨u,h1,h2⟩:=h
  exact ⟨u,h1,DR.mono hp hw x u h2⟩
 | .nilif,v,h=>by simpa only [DR] using h
 | .nilptr,v,h=>by simpa only [DR] using h
 | .nilfn,v,h=>by simpa only [DR] using h
 | .nilmap,v,h=>by simpa only [DR] using h
 | .mp _,v,h=>by simpa only [DR] using h
 | .clo fn a b,v,h=>by
  simp only [DR] at h⊢
  obtain ⟨fa,fb,h1,h2,h3⟩:=h
  exact ⟨fa,fb,h1,DRs.mono hp hw a _ h2,DRs.mono hp hw b _ h3⟩
 | .cp cs f,v,h=>by
  simp only [DR] at h⊢
  obtain ⟨b,o,vs,h1,h2,h0,h3,h4⟩:=h
  exact ⟨b,o,vs,h1,hp b h2,h0,h3.mono (hw b h2),DRs.mono hp hw cs _ h4⟩
theorem DRs.mono {pr pr':Nat→Prop} {w w':World} (hp:∀b,pr b→pr' b) (hw:∀b,pr b→w'.heap[b]? =w.heap[b]?):
  ∀(xs:List D) (vs:List Value),DRs pr w xs vs→DRs pr' w' xs vs
 | [],vs,h=>by simpa only [DRs] using h
 | x::xs,vs,h=>by
  simp only [DRs] at h⊢
  obtain ⟨u,us,h1,h2,h3⟩:=h
  exact ⟨u,us,h1,DR.mono hp hw x u h2,DRs.mono hp hw xs us h3⟩
end
theorem DRs.length {pr:Nat→Prop} {w:World}:∀{xs:List D} {vs:List Value},DRs pr w xs vs→vs.length=xs.length
 | [],vs,h=>by simp only [DRs] at h;simp [h]
 | x::xs,vs,h=>by
  simp only [DRs] at h
  obtain ⟨u,us,rfl,_,h3⟩:=h
  simp [DRs.length h3]
theorem DRs.append {pr:Nat→Prop} {w:World}:∀{xs ys:List D} {vs us:List Value},DRs pr w xs vs→DRs pr w ys us→DRs pr w (xs++ys) (vs++us)
 | [],ys,vs,us,h,k=>by simp only [DRs] at h;subst h;simpa using k
 | x::xs,ys,vs,us,h,k=>by
  simp only [DRs] at h
  obtain ⟨u,us',rfl,h2,h3⟩:=h
  simp only [List.cons_append,DRs]
  exact ⟨u,_,rfl,h2,DRs.append h3 k⟩
theorem DRs.getElem? {pr:Nat→Prop} {w:World}:∀{xs:List D} {vs:List Value} {i:Nat} {x:D},DRs pr w xs vs→xs[i]? =some x→∃u,vs[i]? =some u∧DR pr w x u
 | [],vs,i,x,h,hi=>by simp at hi
 | y::xs,vs,0,x,h,hi=>by
  simp only [DRs] at h
  obtain ⟨u,us,rfl,h2,_⟩:=h
  simp at hi;subst hi
  exact ⟨u,rfl,h2⟩
 | y::xs,vs,i+1,x,h,hi=>by
  simp only [DRs] at h
  obtain ⟨u,us,rfl,_,h3⟩:=h
  simp at hi
  obtain ⟨u',h4,h5⟩:=DRs.getElem? h3 hi
  exact ⟨u',by simpa using h4,h5⟩
theorem DRs.take {pr:Nat→Prop} {w:World}:∀{xs:List D} {vs:List Value} (n:Nat),DRs pr w xs vs→DRs pr w (xs.take n) (vs.take n)
 | [],vs,n,h=>by simp only [DRs] at h;subst h;simp [DRs]
 | x::xs,vs,0,h=>by simp [DRs]
 | x::xs,vs,n+1,h=>by
  simp only [DRs] at h
  obtain ⟨u,us,rfl,h2,h3⟩:=h
  simp only [List.take_succ_cons,DRs]
  exact ⟨u,_,rfl,h2,DRs.take n h3⟩
theorem DRs.drop {pr:Nat→Prop} {w:World}:∀{xs:List D} {vs:List Value} (n:Nat),DRs pr w xs vs→DRs pr w (xs.drop n) (vs.drop n)
 | [],vs,n,h=>by simp only [DRs] at h;subst h;simp [DRs]
 | x::xs,vs,0,h=>by simpa using h
 | x::xs,vs,n+1,h=>by
  simp only [DRs] at h
  obtain ⟨u,us,rfl,h2,h3⟩:=h
  simpa using DRs.drop n h3
theorem DR.size {pr:Nat→Prop} {w:World} {x:D} {v:Value} (h:DR pr w x v):v.cells.size=x.sz:=by
 cases x with
 | lst es=>
  simp only [DR] at h
  rcases h with ⟨_,a,c,rfl⟩ | ⟨b,o,cap,sz,vs,rfl,_⟩<;>simp [Value.cells,D.sz]
 | agg cs=>
  simp only [DR] at h
  obtain ⟨arr,rfl,h0,h2⟩:=h
  have:=h2.length
  simpa [Value.cells,D.sz] using this
 | ifc t x=>simp only [DR] at h;obtain ⟨u,rfl,_⟩:=h;simp [Value.cells,D.sz]
 | clo fn a b=>simp only [DR] at h;obtain ⟨fa,fb,rfl,_⟩:=h;simp [Value.cells,D.sz]
 | cp cs f=>simp only [DR] at h;obtain ⟨b,o,vs,rfl,_⟩:=h;simp [Value.cells,D.sz]
 | mp l=>simp only [DR] at h;subst h;simp [mpV,Value.cells,D.sz]
 | _=>simp only [DR] at h;subst h;simp [Value.cells,D.sz]
theorem DR.cells {pr:Nat→Prop} {w:World} {x:D} {v:Value} (h:DR pr w x v):DRs pr w x.cells v.cells.toList:=by
 cases x with
 | agg cs=>
  simp only [DR] at h
  obtain ⟨arr,rfl,h0,h2⟩:=h
  simpa [Value.cells,D.cells] using h2
 | lst es=>
  have h':=h
  simp only [DR] at h
  rcases h with ⟨_,a,c,rfl⟩ | ⟨b,o,cap,sz,vs,rfl,_⟩<;>simpa [Value.cells,D.cells,DRs] using h'
 | ifc t x=>have h':=h;simp only [DR] at h;obtain ⟨u,rfl,_⟩:=h;simpa [Value.cells,D.cells,DRs] using h'
 | clo fn a b=>have h':=h;simp only [DR] at h;obtain ⟨fa,fb,rfl,_⟩:=h;simpa [Value.cells,D.cells,DRs] using h'
 | cp cs f=>have h':=h;simp only [DR] at h;obtain ⟨b,o,vs,rfl,_⟩:=h;simpa [Value.cells,D.cells,DRs] using h'
 | mp l=>
  have h':=h;simp only [DR] at h;subst h
  show DRs pr w [D.mp l] [mpV l]
  simp only [DRs];exact ⟨_,_,rfl,h',rfl⟩
 | _=>have h':=h;simp only [DR] at h;subst h;simpa [Value.cells,D.cells,DRs] using h'
theorem VRs.length {E:Env} {w:World}:∀{xs:List PV} {vs:List Value},VRs E w xs vs→vs.length=xs.length
 | [],vs,h=>by simp only [VRs] at h;simp [h]
 | x::xs,vs,h=>by
  simp only [VRs] at h
  obtain ⟨u,us,rfl,_,h3⟩:=h
  simp [VRs.length h3]
theorem VRs.getElem? {E:Env} {w:World}:∀{xs:List PV} {vs:List Value} {i:Nat} {x:PV},VRs E w xs vs→xs[i]? =some x→∃u,vs[i]? =some u∧VR E w x u
 | [],vs,i,x,h,hi=>by simp at hi
 | y::xs,vs,0,x,h,hi=>by
  simp only [VRs] at h
  obtain ⟨u,us,rfl,h2,_⟩:=h
  simp at hi;subst hi
  exact ⟨u,rfl,h2⟩
 | y::xs,vs,i+1,x,h,hi=>by
  simp only [VRs] at h
  obtain ⟨u,us,rfl,_,h3⟩:=h
  simp at hi
  obtain ⟨u',h4,h5⟩:=VRs.getElem? h3 hi
  exact ⟨u',by simpa using h4,h5⟩
theorem VRs.append {E:Env} {w:World}:∀{xs ys:List PV} {vs us:List Value},VRs E w xs vs→VRs E w ys us→VRs E w (xs++ys) (vs++us)
 | [],ys,vs,us,h,k=>by simp only [VRs] at h;subst h;simpa using k
 | x::xs,ys,vs,us,h,k=>by
  simp only [VRs] at h
  obtain ⟨u,us',rfl,h2,h3⟩:=h
  simp only [List.cons_append,VRs]
  exact ⟨u,_,rfl,h2,VRs.append h3 k⟩
theorem DR.one {pr:Nat→Prop} {w:World} {x:D} {v:Value} (h:DR pr w x v):OneC v.cells.toList:=by
 cases x with
 | agg cs=>
  simp only [DR] at h
  obtain ⟨arr,rfl,h0,h2⟩:=h
  simpa [Value.cells] using h0
 | lst es=>
  simp only [DR] at h
  rcases h with ⟨_,a,c,rfl⟩ | ⟨b,o,cap,sz,vs,rfl,_⟩<;>simp [Value.cells,OneC,Value.oneCell']
 | ifc t x=>simp only [DR] at h;obtain ⟨u,rfl,_⟩:=h;simp [Value.cells,OneC,Value.oneCell']
 | clo fn a b=>simp only [DR] at h;obtain ⟨fa,fb,rfl,_⟩:=h;simp [Value.cells,OneC,Value.oneCell']
 | cp cs f=>simp only [DR] at h;obtain ⟨b,o,vs,rfl,_⟩:=h;simp [Value.cells,OneC,Value.oneCell']
 | mp l=>simp only [DR] at h;subst h;simp [mpV,Value.cells,OneC,Value.oneCell']
 | _=>simp only [DR] at h;subst h;simp [Value.cells,OneC,Value.oneCell']
theorem DRs.one {pr:Nat→Prop} {w:World}:∀{xs:List D} {vs:List Value},DRs pr w xs vs→OneC (flat vs)
 | [],vs,h=>by simp only [DRs] at h;subst h;simp [flat,OneC]
 | x::xs,vs,h=>by
  simp only [DRs] at h
  obtain ⟨u,us,rfl,h2,h3⟩:=h
  have:=DRs.one h3
  intro c hc
  simp only [flat,List.flatMap_cons,List.mem_append] at hc
  rcases hc with hc | hc
  ·exact h2.one c hc
  ·exact this c hc
structure zHL (E E':Env) (w w':World) (ts:List Tg):Prop where
 prot:∀b,E.prot b→E'.prot b
 stays:∀b,E.prot b→w'.heap[b]? =w.heap[b]?
 row:∀t∈ts,∀r,E.row t=some r→E'.row t=some r∧w'.heap[r.1]? =w.heap[r.1]?
 box:∀t∈ts,∀b,E.box t=some b→E'.box t=some b
theorem zHL.sub {E E':Env} {w w':World} {ts us:List Tg} (h:zHL E E' w w' ts) (hs:∀t∈us,t∈ts):zHL E E' w w' us:=
 ⟨h.prot,h.stays,fun t ht=>h.row t (hs t ht),fun t ht=>h.box t (hs t ht)⟩
mutual
theorem VR.keep {E E':Env} {w w':World}:∀(p:PV) (v:Value),zHL E E' w w' p.tags→VR E w p v→VR E' w' p v
 | .unk,v,k,h=>by simp only [VR]
 | .d x,v,k,h=>by simp only [VR] at h⊢;exact DR.mono k.prot k.stays x v h
 | .nils,v,k,h=>by simpa only [VR] using h
 | .sl t sz off es,v,k,h=>by
  simp only [VR] at h⊢
  rcases h with h | ⟨b,o,cap,c,el,fr,vs,h1,h2,h3,h4,hf,h5,h6,h7,h8⟩
  ·exact .inl h
  ·obtain ⟨k1,k2⟩:=k.row t (by simp [PV.tags]) _ h1
   exact .inr ⟨b,o,cap,c,el,fr,vs,k1,h2,h3,by rw [k2];exact h4,hf,h5,h6,h7.mono k2,DRs.mono k.prot k.stays _ _ h8⟩
 | .ptr t off,v,k,h=>by
  simp only [VR] at h⊢
  obtain ⟨b,h1,h2⟩:=h
  exact ⟨b,k.box t (by simp [PV.tags]) _ h1,h2⟩
 | .ep t sz idx f e,v,k,h=>by
  simp only [VR] at h⊢
  obtain ⟨b,o,c,el,fr,h1,h2,h3,hf,h4,h5⟩:=h
  obtain ⟨k1,k2⟩:=k.row t (by simp [PV.tags]) _ h1
  refine ⟨b,o,c,el,fr,k1,h2,by rw [k2];exact h3,hf,h4,fun x hx=> ?_⟩
  obtain ⟨u,h6,h7,h8⟩:=h5 x hx
  exact ⟨u,DR.mono k.prot k.stays _ _ h6,h7,h8.mono k2⟩
 | .agg cs,v,k,h=>by
  simp only [VR] at h⊢
  obtain ⟨arr,h1,h0,h2⟩:=h
  exact ⟨arr,h1,h0,VRs.keep cs _ (k.sub (by simp [PV.tags])) h2⟩
 | .clo fn a b,v,k,h=>by
  simp only [VR] at h⊢
  obtain ⟨fa,fb,h1,h2,h3⟩:=h
  exact ⟨fa,fb,h1,VRs.keep a _ (k.sub (by simp [PV.tags];intro t ht;exact .inl ht)) h2,VRs.keep b _ (k.sub (by simp [PV.tags];intro t ht;exact .inr ht)) h3⟩
 | .ifc t x,v,k,h=>by
  simp only [VR] at h⊢
  obtain ⟨u,h1,h2⟩:=h
  exact ⟨u,h1,VR.keep x u (k.sub (by simp [PV.tags])) h2⟩
 | .tup xs,v,k,h=>by
  simp only [VR] at h⊢
  obtain ⟨arr,h1,h2⟩:=h
  exact ⟨arr,h1,VRs.keep xs _ (k.sub (by simp [PV.tags])) h2⟩
theorem VRs.keep {E E':Env} {w w':World}:∀(ps:List PV) (vs:List Value),zHL E E' w w' (PV.tagsL ps)→VRs E w ps vs→VRs E' w' ps vs
 | [],vs,k,h=>by simpa only [VRs] using h
 | x::xs,vs,k,h=>by
  simp only [VRs] at h⊢
  obtain ⟨u,us,h1,h2,h3⟩:=h
  exact ⟨u,us,h1,VR.keep x u (k.sub (by simp [PV.tagsL];intro t ht;exact .inl ht)) h2,VRs.keep xs us (k.sub (by simp [PV.tagsL];intro t ht;exact .inr ht)) h3⟩
end
end Go.Proofs.YtnmlihfpenjeiaaGreat.Abs
namespace Go.Proofs.YtnmlihfpenjeiaaGreat.Abs
open Go Go.RowKit
set_option linter.unusedVariables false
mutual
def PV.mapT (f:PV→PV):PV→PV
 | .unk=> .unk
 | .d x=> .d x
 | .nils=> .nils
 | .sl t sz off es=>f (.sl t sz off es)
 | .ptr k off=>f (.ptr k off)
 | .ep t sz idx g e=>f (.ep t sz idx g e)
 | .agg cs=> .agg (PV.mapTL f cs)
 | .clo fn a b=> .clo fn (PV.mapTL f a) (PV.mapTL f b)
 | .ifc t x=> .ifc t (x.mapT f)
 | .tup vs=> .tup (PV.mapTL f vs)
def PV.mapTL (f:PV→PV):List PV→List PV
 | []=>[]
 | x::xs=>x.mapT f::PV.mapTL f xs
end
def PV.leaf:PV→Bool
 | .sl .. =>true
 | .ptr .. =>true
 | .ep .. =>true
 | _=>false
mutual
theorem VR.map {E E':Env} {w w':World} {f:PV→PV} (hp:∀b,E.prot b→E'.prot b) (hs:∀b,E.prot b→w'.heap[b]? =w.heap[b]?)
  (hl:∀p v,p.leaf=true→VR E w p v→VR E' w' (f p) v):∀(p:PV) (v:Value),VR E w p v→VR E' w' (p.mapT f) v
 | .unk,v,h=>by simp only [VR,PV.mapT]
 | .d x,v,h=>by simp only [VR,PV.mapT] at h⊢;exact DR.mono hp hs x v h
 | .nils,v,h=>by simpa only [VR,PV.mapT] using h
 | .sl t sz off es,v,h=>by simp only [PV.mapT];exact hl _ _ rfl h
 | .ptr t off,v,h=>by simp only [PV.mapT];exact hl _ _ rfl h
 | .ep t sz idx g e,v,h=>by simp only [PV.mapT];exact hl _ _ rfl h
 | .agg cs,v,h=>by
  simp only [VR,PV.mapT] at h⊢
  obtain ⟨arr,h1,h0,h2⟩:=h
  exact ⟨arr,h1,h0,VRs.map hp hs hl cs _ h2⟩
 | .clo fn a b,v,h=>by
  simp only [VR,PV.mapT] at h⊢
  obtain ⟨fa,fb,h1,h2,h3⟩:=h
  exact ⟨fa,fb,h1,VRs.map hp hs hl a _ h2,VRs.map hp hs hl b _ h3⟩
 | .ifc t x,v,h=>by
  simp only [VR,PV.mapT] at h⊢
  obtain ⟨u,h1,h2⟩:=h
  exact ⟨u,h1,VR.map hp hs hl x u h2⟩
 | .tup xs,v,h=>by
  simp only [VR,PV.mapT] at h⊢
  obtain ⟨arr,h1,h2⟩:=h
  exact ⟨arr,h1,VRs.map hp hs hl xs _ h2⟩
theorem VRs.map {E E':Env} {w w':World} {f:PV→PV} (hp:∀b,E.prot b→E'.prot b) (hs:∀b,E.prot b→w'.heap[b]? =w.heap[b]?)
  (hl:∀p v,p.leaf=true→VR E w p v→VR E' w' (f p) v):∀(ps:List PV) (vs:List Value),VRs E w ps vs→VRs E' w' (PV.mapTL f ps) vs
 | [],vs,h=>by simpa only [VRs,PV.mapTL] using h
 | x::xs,vs,h=>by
  simp only [VRs,PV.mapTL] at h⊢
  obtain ⟨u,us,h1,h2,h3⟩:=h
  exact ⟨u,us,h1,VR.map hp hs hl x u h2,VRs.map hp hs hl xs us h3⟩
end
mutual
theorem PV.mapT_id:∀p:PV,p.mapT id=p
 | .unk=>by simp [PV.mapT]
 | .d x=>by simp [PV.mapT]
 | .nils=>by simp [PV.mapT]
 | .sl t sz off es=>by simp [PV.mapT]
 | .ptr t off=>by simp [PV.mapT]
 | .ep t sz idx g e=>by simp [PV.mapT]
 | .agg cs=>by simp [PV.mapT,PV.mapTL_id cs]
 | .clo fn a b=>by simp [PV.mapT,PV.mapTL_id a,PV.mapTL_id b]
 | .ifc t x=>by simp [PV.mapT,PV.mapT_id x]
 | .tup xs=>by simp [PV.mapT,PV.mapTL_id xs]
theorem PV.mapTL_id:∀ps:List PV,PV.mapTL id ps=ps
 | []=>by simp [PV.mapTL]
 | x::xs=>by simp [PV.mapTL,PV.mapT_id x,PV.mapTL_id xs]
end
structure St where
 tm:List (Nat×PV)
 bx:List (Tg×List PV)
def getL (d:Nat):List (Nat×PV)→Option PV
 | []=>none
 | (e,v)::r=>if d=e then some v else getL d r
def delL (d:Nat):List (Nat×PV)→List (Nat×PV)
 | []=>[]
 | (e,v)::r=>if d=e then delL d r else (e,v)::delL d r
def getB (k:Tg):List (Tg×List PV)→Option (List PV)
 | []=>none
 | (e,v)::r=>if k=e then some v else getB k r
def delB (k:Tg):List (Tg×List PV)→List (Tg×List PV)
 | []=>[]
 | (e,v)::r=>if k=e then delB k r else (e,v)::delB k r
def zIl (f:PV→PV):List (Nat×PV)→List (Nat×PV)
 | []=>[]
 | (e,v)::r=>(e,v.mapT f)::zIl f r
def zIq (f:PV→PV):List (Tg×List PV)→List (Tg×List PV)
 | []=>[]
 | (e,v)::r=>(e,PV.mapTL f v)::zIq f r
def St.get (st:St) (d:Nat):Option PV:=getL d st.tm
def St.put (st:St) (d:Nat) (v:PV):St:=⟨(d,v)::delL d st.tm,st.bx⟩
def St.box (st:St) (k:Tg):Option (List PV):=getB k st.bx
def St.setBox (st:St) (k:Tg) (cs:List PV):St:=⟨st.tm,(k,cs)::delB k st.bx⟩
def St.map (st:St) (f:PV→PV):St:=⟨zIl f st.tm,zIq f st.bx⟩
def St.putO (st:St):Option Nat→PV→St
 | some d,v=>st.put d v
 | none,_=>st
theorem zSE {d:Nat} {v:PV}:∀{l:List (Nat×PV)},getL d l=some v→(d,v)∈l
 | [],h=>by simp [getL] at h
 | (e,u)::r,h=>by
  simp only [getL] at h
  split at h
  ·rename_i he;subst he;simp at h;subst h;simp
  ·exact List.mem_cons_of_mem _ (zSE h)
theorem zEd {d:Tg} {v:List PV}:∀{l:List (Tg×List PV)},getB d l=some v→(d,v)∈l
 | [],h=>by simp [getB] at h
 | (e,u)::r,h=>by
  simp only [getB] at h
  split at h
  ·rename_i he;subst he;simp at h;subst h;simp
  ·exact List.mem_cons_of_mem _ (zEd h)
theorem zLy {d e:Nat} {v:PV}:∀{l:List (Nat×PV)},(e,v)∈delL d l→e≠d∧(e,v)∈l
 | [],h=>by simp [delL] at h
 | (e',u)::r,h=>by
  simp only [delL] at h
  split at h
  ·have:=zLy h;exact ⟨this.1,List.mem_cons_of_mem _ this.2⟩
  ·rename_i he
   rcases List.mem_cons.1 h with h | h
   ·cases h;exact ⟨fun e=>he e.symm,by simp⟩
   ·have:=zLy h;exact ⟨this.1,List.mem_cons_of_mem _ this.2⟩
theorem zH3 {d e:Tg} {v:List PV}:∀{l:List (Tg×List PV)},(e,v)∈delB d l→e≠d∧(e,v)∈l
 | [],h=>by simp [delB] at h
 | (e',u)::r,h=>by
  simp only [delB] at h
  split at h
  ·have:=zH3 h;exact ⟨this.1,List.mem_cons_of_mem _ this.2⟩
  ·rename_i he
   rcases List.mem_cons.1 h with h | h
   ·cases h;exact ⟨fun e=>he e.symm,by simp⟩
   ·have:=zH3 h;exact ⟨this.1,List.mem_cons_of_mem _ this.2⟩
theorem zIA {f:PV→PV} {d:Nat} {v:PV}:∀{l:List (Nat×PV)},(d,v)∈zIl f l→∃u,(d,u)∈l∧v=u.mapT f
 | [],h=>by simp [zIl] at h
 | (e,u)::r,h=>by
  simp only [zIl] at h
  rcases List.mem_cons.1 h with h | h
  ·cases h;exact ⟨u,by simp,rfl⟩
  ·obtain ⟨u',h1,h2⟩:=zIA h;exact ⟨u',List.mem_cons_of_mem _ h1,h2⟩
theorem zIS {f:PV→PV} {d:Tg} {v:List PV}:∀{l:List (Tg×List PV)},(d,v)∈zIq f l→∃u,(d,u)∈l∧v=PV.mapTL f u
 | [],h=>by simp [zIq] at h
 | (e,u)::r,h=>by
  simp only [zIq] at h
  rcases List.mem_cons.1 h with h | h
  ·cases h;exact ⟨u,by simp,rfl⟩
  ·obtain ⟨u',h1,h2⟩:=zIS h;exact ⟨u',List.mem_cons_of_mem _ h1,h2⟩
def Own (E:Env) (b:Nat):Prop:=(∃t o,E.row t=some (b,o))∨∃k,E.box k=some b
structure zAm (E:Env) (w:World):Prop where
 row_lt:∀t b o,E.row t=some (b,o)→b<w.heap.size∧¬E.prot b
 box_lt:∀k b,E.box k=some b→b<w.heap.size∧¬E.prot b
 row_row:∀t u b o o',E.row t=some (b,o)→E.row u=some (b,o')→t=u
 box_box:∀t u b,E.box t=some b→E.box u=some b→t=u
 row_box:∀t k b o,E.row t=some (b,o)→E.box k=some b→False
 prot_lt:∀b,E.prot b→b<w.heap.size
theorem zAm.own_lt {E:Env} {w:World} (h:zAm E w) {b:Nat} (ho:Own E b):b<w.heap.size∧¬E.prot b:=by
 rcases ho with ⟨t,o,h1⟩ | ⟨k,h1⟩
 ·exact h.row_lt t b o h1
 ·exact h.box_lt k b h1
def zCk (es:List MapEntry):List Value:=es.flatMap fun e=>[e.key,e.val]
def lookD:Int→List (Int×D)→D→D
 | _,[],z=>z
 | n,e::r,z=>if n=e.1 then e.2 else lookD n r z
def hasK:Int→List Int→Bool
 | _,[]=>false
 | n,k::r=>if n=k then true else hasK n r
theorem zHr {n c:Int} {x z:D} {ps:List (Int×D)} (h:n=c):PV.d (lookD n ((c,x)::ps) z)= .d x:=by simp only [lookD,if_pos h]
theorem zHo {n c:Int} {x z:D} {ps:List (Int×D)} (h:¬n=c):PV.d (lookD n ((c,x)::ps) z)= .d (lookD n ps z):=by simp only [lookD,if_neg h]
def dsOf:List PV→Option (List D)
 | []=>some []
 | .d x::r=>(dsOf r).map (x::·)
 | _=>none
def zPs:PV→Option D
 | .d x=>some x
 | .agg cs=>(dsOf cs).map .agg
 | _=>none
def zLc (kk:IntKind):List PV→Option (List (Int×D))
 | []=>some []
 | .d (.int k' c)::p::r=>if k'=kk then (match zPs p,zLc kk r with
  | some x,some ps=>some ((c,x)::ps)
  | _,_=>none) else none
 | _=>none
def MapR:List (Int×Bool)→List MapEntry→Prop
 | [],es=>es=[]
 | e::l,es=>∃x r,es=x::r∧x.key= .int .i64 e.1∧x.val= .bool e.2∧MapR l r
def insM:List (Int×Bool)→Int→Bool→List (Int×Bool)
 | [],n,b=>[(n,b)]
 | e::r,n,b=>if e.1=n then (n,b)::r else e::insM r n b
def getM:List (Int×Bool)→Int→Bool
 | [],_=>false
 | e::r,n=>if e.1=n then e.2 else getM r n
def hasM:List (Int×Bool)→Int→Bool
 | [],_=>false
 | e::r,n=>if e.1=n then true else hasM r n
def Phys (k:Tg) (o:Obj) (vals:List Value):Prop:=
 (k.isM=false∧∃c el fr,o= .cells c el fr∧Unfz c fr∧OneC c.toList∧vals=c.toList)∨(k.isM=true∧∃es clock,o= .map es clock∧(vals=zCk es.toList∨∃l,vals=[mpV l]∧MapR l es.toList))
theorem Phys.of {k:Tg} (hk:k.isM=false) {c:Array Value} {el:TypeId} {fr:Nat×Nat} (h1:Unfz c fr) (h2:OneC c.toList):Phys k (.cells c el fr) c.toList:= .inl ⟨hk,c,el,fr,rfl,h1,h2,rfl⟩
theorem Phys.c {k k':Tg} {o:Obj} {vs:List Value} (h:Phys k o vs) (e:k.isM=k'.isM):Phys k' o vs:=by unfold Phys at*;rw [←e];exact h
theorem Phys.mp {E:Env} {w:World} {k:Tg} {o:Obj} {vs:List Value} {l:List (Int×Bool)} (hk:k.isM=true) (h:Phys k o vs) (hv:VRs E w [.d (.mp l)] vs):∃es clock,o= .map es clock∧MapR l es.toList:=by
 simp only [VRs,VR,DR] at hv
 obtain ⟨u,us,rfl,rfl,rfl⟩:=hv
 rcases h with ⟨hf,_⟩ | ⟨_,es,clock,rfl,h | ⟨l',h1,h2⟩⟩
 ·rw [hk] at hf;cases hf
 ·exfalso
  match hl:es.toList with
  | []=>rw [hl] at h;simp [zCk] at h
  | e::r=>rw [hl] at h;simp [zCk] at h
 ·simp only [List.cons.injEq,and_true] at h1
  exact ⟨es,clock,rfl,by rw [zYK h1];exact h2⟩
theorem VRs.one {E:Env} {w:World} {cs:List PV} {x:Value} (h:VRs E w cs [x]):∃p,cs=[p]:=by
 match cs,h with
 | [],h=>simp only [VRs] at h;cases h
 | [p],h=>exact ⟨p,rfl⟩
 | p::q::r,h=>
  simp only [VRs] at h
  obtain ⟨u,us,h1,_,u',us',h2,_⟩:=h
  rw [h2] at h1;simp at h1
structure StR (E:Env) (w:World) (st:St) (tmps:Array Value):Prop where
 tm:∀d v,(d,v)∈st.tm→∃u,tmps[d]? =some u∧VR E w v u
 bx:∀k cs,(k,cs)∈st.bx→∃b o vs,E.box k=some b∧w.heap[b]? =some o∧Phys k o vs∧VRs E w cs vs
theorem StR.bxc {E:Env} {w:World} {st:St} {tmps:Array Value} (h:StR E w st tmps) {k:Tg} {cs:List PV} (hm:(k,cs)∈st.bx) (hk:k.isM=false):
  ∃b c el fr,E.box k=some b∧w.heap[b]? =some (.cells c el fr)∧Unfz c fr∧OneC c.toList∧VRs E w cs c.toList:=by
 obtain ⟨b,o,vs,h1,h2,h3,h4⟩:=h.bx k cs hm
 rcases h3 with ⟨_,c,el,fr,rfl,g1,g2,rfl⟩ | ⟨hk',_⟩
 ·exact ⟨b,c,el,fr,h1,h2,g1,g2,h4⟩
 ·rw [hk] at hk';cases hk'
structure Bel (w w':World):Prop extends Below w.heap.size w w' where
 drawn:w.drawn≤w'.drawn
structure Step (E:Env) (w:World) (E':Env) (w':World):Prop where
 os:w'.os=w.os
 tape:w'.tape=w.tape
 output:w'.output=w.output
 size:w.heap.size≤w'.heap.size
 drawn:w.drawn≤w'.drawn
 frame:∀b,b<w.heap.size→¬Own E b→w'.heap[b]? =w.heap[b]?
 own:∀b,Own E' b→Own E b∨w.heap.size≤b
 prot:∀b,E.prot b→E'.prot b
 prot':∀b,E'.prot b→E.prot b∨Own E b∨w.heap.size≤b
 pin:∀t b,E.box (.up t)=some b→E'.box (.up t)=some b
theorem Step.refl (E:Env) (w:World):Step E w E w:=
 ⟨rfl,rfl,rfl,Nat.le_refl _,Nat.le_refl _,fun _ _ _=>rfl,fun _ h=> .inl h,fun _ h=>h,fun _ h=> .inl h,fun _ _ h=>h⟩
theorem Step.trans {E1 E2 E3:Env} {w1 w2 w3:World} (h:Step E1 w1 E2 w2) (k:Step E2 w2 E3 w3):Step E1 w1 E3 w3:=by
 refine ⟨k.os.trans h.os,k.tape.trans h.tape,k.output.trans h.output,Nat.le_trans h.size k.size,Nat.le_trans h.drawn k.drawn, ?_, ?_,fun b hb=>k.prot b (h.prot b hb), ?_,fun t b hb=>k.pin t b (h.pin t b hb)⟩
 ·intro b hb ho
  rw [k.frame b (Nat.lt_of_lt_of_le hb h.size) (fun h2=>(h.own b h2).elim ho (fun h3=>by omega)),h.frame b hb ho]
 ·intro b hb
  rcases k.own b hb with h2 | h2
  ·exact h.own b h2
  ·exact .inr (Nat.le_trans h.size h2)
 ·intro b hb
  rcases k.prot' b hb with h2 | h2 | h2
  ·exact h.prot' b h2
  ·rcases h.own b h2 with h3 | h3
   ·exact .inr (.inl h3)
   ·exact .inr (.inr h3)
  ·exact .inr (.inr (Nat.le_trans h.size h2))
theorem Step.stays {E E':Env} {w w':World} (h:Step E w E' w') (hv:zAm E w):∀b,E.prot b→w'.heap[b]? =w.heap[b]? :=
 fun b hb=>h.frame b (hv.prot_lt b hb) (fun ho=>(hv.own_lt ho).2 hb)
theorem StR.get {E:Env} {w:World} {st:St} {tmps:Array Value} (h:StR E w st tmps) {d:Nat} {v:PV} (hg:st.get d=some v):
 ∃u,tmps[d]? =some u∧VR E w v u:=h.tm d v (zSE hg)
theorem StR.put {E:Env} {w:World} {st:St} {tmps:Array Value} (h:StR E w st tmps) {d:Nat} {v:PV} {u:Value} (hd:d<tmps.size) (hv:VR E w v u):
  StR E w (st.put d v) (tmps.setIfInBounds d u):=by
 refine ⟨fun e p hm=> ?_,h.bx⟩
 simp only [St.put] at hm
 rcases List.mem_cons.1 hm with hm | hm
 ·cases hm
  exact ⟨u,by simp [Array.getElem?_setIfInBounds,hd],hv⟩
 ·obtain ⟨h1,h2⟩:=zLy hm
  obtain ⟨x,h3,h4⟩:=h.tm e p h2
  exact ⟨x,by rw [Array.getElem?_setIfInBounds_ne (fun e'=>h1 e'.symm)];exact h3,h4⟩
theorem StR.map {E E':Env} {w w':World} {st:St} {tmps:Array Value} {f:PV→PV} (h:StR E w st tmps)
  (hp:∀b,E.prot b→E'.prot b) (hs:∀b,E.prot b→w'.heap[b]? =w.heap[b]?)
  (hl:∀p v,p.leaf=true→VR E w p v→VR E' w' (f p) v)
  (hb:∀k cs,(k,cs)∈st.bx→∀b,E.box k=some b→E'.box k=some b∧w'.heap[b]? =w.heap[b]?):
  StR E' w' (st.map f) tmps:=by
 refine ⟨fun d v hm=> ?_,fun k cs hm=> ?_⟩
 ·obtain ⟨u,h1,rfl⟩:=zIA hm
  obtain ⟨x,h2,h3⟩:=h.tm d u h1
  exact ⟨x,h2,VR.map hp hs hl u x h3⟩
 ·obtain ⟨u,h1,rfl⟩:=zIS hm
  obtain ⟨b,o,vs,h2,h3,h4,h5⟩:=h.bx k u h1
  obtain ⟨h6,h7⟩:=hb k u h1 b h2
  exact ⟨b,o,vs,h6,by rw [h7];exact h3,h4,VRs.map hp hs hl u _ h5⟩
theorem zRY:∀l:List (Nat×PV),zIl id l=l
 | []=>rfl
 | (e,v)::r=>by simp [zIl,PV.mapT_id,zRY r]
theorem zSu:∀l:List (Tg×List PV),zIq id l=l
 | []=>rfl
 | (e,v)::r=>by simp [zIq,PV.mapTL_id,zSu r]
theorem St.map_id (st:St):st.map id=st:=by cases st;simp [St.map,zRY,zSu]
theorem StR.keep {E E':Env} {w w':World} {st:St} {tmps:Array Value} (h:StR E w st tmps)
  (hp:∀b,E.prot b→E'.prot b) (hs:∀b,E.prot b→w'.heap[b]? =w.heap[b]?)
  (hr:∀t r,E.row t=some r→E'.row t=some r∧w'.heap[r.1]? =w.heap[r.1]?) (hb:∀k b,E.box k=some b→E'.box k=some b∧w'.heap[b]? =w.heap[b]?):
  StR E' w' st tmps:=by
 have:=h.map (E':=E') (w':=w') (f:=id) hp hs (fun p v hl hv=>VR.keep p v ⟨hp,hs,fun t _ r hr'=>hr t r hr',fun t _ b hb'=>(hb t b hb').1⟩ hv) (fun k cs _ b hb'=>hb k b hb')
 rwa [St.map_id] at this
end Go.Proofs.YtnmlihfpenjeiaaGreat.Abs
namespace Go.Proofs.YtnmlihfpenjeiaaGreat.Abs
open Go Go.RowKit
set_option linter.unusedVariables false
set_option linter.unusedSimpArgs false
inductive Opd where
 | t (n:Nat)
 | c (p:PV)
 deriving Inhabited
def St.val (st:St):Opd→Option PV
 | .t n=>st.get n
 | .c p=>some p
def trV:Value→Option PV
 | .bool b=>some (.d (.bool b))
 | .int k n=>some (.d (.int k n))
 | .float k n=>some (.d (.flt k n))
 | .string s=>some (.d (.str s))
 | .pointer none=>some (.d .nilptr)
 | .slice none 0 0=>some .nils
 | .map none=>some (.d .nilmap)
 | .nilFunc=>some (.d .nilfn)
 | .nilIface=>some (.d .nilif)
 | _=>none
def trO:Operand→Option Opd
 | .tmp t=>some (.t t)
 | .const v=>(trV v).map .c
 | .func f=>some (.c (.d (.clo (.func f) [] [])))
 | .global _=>none
theorem zV3 {v:Value} {p:PV} (h:trV v=some p) (E:Env) (w:World):VR E w p v:=by
 unfold trV at h
 split at h<;>first | (cases h;simp only [VR,DR];done) | (cases h;simp [VR,DR];done) | cases h
theorem zMD {x:Operand} {o:Opd} (h:trO x=some o) {E:Env} {w:World} {st:St} {a:Act} (hs:StR E w st a.tmps) {p:PV} (hp:st.val o=some p):
  VR E w p (a.eval x):=by
 cases x with
 | tmp t=>
  simp only [trO,Option.some.injEq] at h;subst h
  obtain ⟨u,h1,h2⟩:=hs.get hp
  simp only [Act.eval,Array.getD_eq_getD_getElem?,h1,Option.getD_some];exact h2
 | const v=>
  simp only [trO,Option.map_eq_some_iff] at h
  obtain ⟨q,h1,rfl⟩:=h
  simp only [St.val,Option.some.injEq] at hp;subst hp
  exact zV3 h1 E w
 | func f=>
  simp only [trO,Option.some.injEq] at h;subst h
  simp only [St.val,Option.some.injEq] at hp;subst hp
  simp only [VR,DR,Act.eval,DRs]
  exact ⟨#[],#[],rfl,rfl,rfl⟩
 | global g=>simp [trO] at h
inductive BT where
 | int | bool | str | slice | ptr | func | other
 deriving DecidableEq,Inhabited
def bAnd (k:IntKind) (x y:Int):Int:=k.wrap (BitVec.ofInt k.bits x &&& BitVec.ofInt k.bits y).toNat
def bOr (k:IntKind) (x y:Int):Int:=k.wrap (BitVec.ofInt k.bits x ||| BitVec.ofInt k.bits y).toNat
def bXor (k:IntKind) (x y:Int):Int:=k.wrap (BitVec.ofInt k.bits x ^^^ BitVec.ofInt k.bits y).toNat
def zUl (k:IntKind) (x y:Int):Int:=k.wrap (BitVec.ofInt k.bits x &&& ~~~ BitVec.ofInt k.bits y).toNat
def sShl (k:IntKind) (x y:Int):Int:=k.wrap (x*2 ^ (min y.toNat k.bits))
def sShr (k:IntKind) (x y:Int):Int:=x.fdiv (2 ^ (min y.toNat k.bits))
def iRes (op:BinOp) (k:IntKind) (x y:Int):Option (Prop×D):=
 match op with
 | .add=>some (True, .int k (k.wrap (x+y)))
 | .sub=>some (True, .int k (k.wrap (x-y)))
 | .mul=>some (True, .int k (k.wrap (x*y)))
 | .quo=>some (y≠0, .int k (k.wrap (x.tdiv y)))
 | .rem=>some (y≠0, .int k (x.tmod y))
 | .and=>some (True, .int k (bAnd k x y))
 | .or=>some (True, .int k (bOr k x y))
 | .xor=>some (True, .int k (bXor k x y))
 | .andNot=>some (True, .int k (zUl k x y))
 | .eql=>some (True, .bool (x==y))
 | .neq=>some (True, .bool (x !=y))
 | .lss=>some (True, .bool (decide (x<y)))
 | .leq=>some (True, .bool (decide (x≤y)))
 | .gtr=>some (True, .bool (decide (x>y)))
 | .geq=>some (True, .bool (decide (x≥y)))
 | _=>none
def sRes (op:BinOp) (x y:ByteArray):Option (Prop×D):=
 match op with
 | .eql=>some (True, .bool (x.toList==y.toList))
 | .neq=>some (True, .bool (!(x.toList==y.toList)))
 | _=>none
def zHq (bt:BT) (a:PV):Option (Prop×Bool):=
 match bt,a with
 | .slice, .nils=>some (True,true)
 | .ptr, .d .nilptr=>some (True,true)
 | .ptr, .ptr k _=>if k.isM=true then none else some (True,false)
 | .ptr, .ep _ _ _ _ _=>some (True,false)
 | .ptr, .d (.cp _ _)=>some (True,false)
 | .func, .d .nilfn=>some (True,true)
 | .func, .clo _ _ _=>some (True,false)
 | .func, .d (.clo _ _ _)=>some (True,false)
 | _,_=>none
def zLw:BT→PV→Bool
 | .slice, .nils=>true
 | .ptr, .d .nilptr=>true
 | .func, .d .nilfn=>true
 | _,_=>false
def zO0 (op:BinOp) (bt:BT) (a b:PV):Option (Prop×PV):=
 match bt,a,b with
 | .int, .d (.int k x), .d (.int k' y)=>
  match op with
  | .shl=>some (0≤y, .d (.int k (sShl k x y)))
  | .shr=>some (0≤y, .d (.int k (sShr k x y)))
  | _=>if k=k' then (iRes op k x y).map fun r=>(r.1, .d r.2) else none
 | .bool, .d (.bool x), .d (.bool y)=>
  match op with
  | .eql=>some (True, .d (.bool (x==y)))
  | .neq=>some (True, .d (.bool (!(x==y))))
  | _=>none
 | .str, .d (.str x), .d (.str y)=>(sRes op x y).map fun r=>(r.1, .d r.2)
 | bt,a,b=>
  match op,zHq bt a,zLw bt b with
  | .eql,some (c,n),true=>some (c, .d (.bool n))
  | .neq,some (c,n),true=>some (c, .d (.bool (!n)))
  | _,_,_=>none
def zRK (op:UnOp) (a:PV):Option (Prop×PV):=
 match op,a with
 | .neg, .d (.int k n)=>some (True, .d (.int k (k.wrap (0-n))))
 | .xor, .d (.int k n)=>some (True, .d (.int k (bXor k (if k.signed then -1 else k.max) n)))
 | .not, .d (.bool b)=>some (True, .d (.bool (!b)))
 | _,_=>none
section
variable {P:Program} {w:World}
theorem zD8 {t:TypeId} {i:TypeInfo} (h:P.info? t=some i) (w:World):(typeInfo t).run P w= .ok i w:=by
 simp [typeInfo,h]
theorem zBd {t:TypeId} {i:TypeInfo} (h:P.info? t=some i) (w:World):(sizeOf t).run P w= .ok i.size w:=by
 simp [sizeOf,zD8 h]
theorem zBJ {t:TypeId} {i:TypeInfo} {z:Value} (h:P.info? t=some i) (hz:i.zero=some z) (w:World):(zeroValue t).run P w= .ok z w:=by
 simp [zeroValue,zD8 h,hz]
def aggT:TypeDesc→Bool
 | .struct _=>true
 | .array _ _=>true
 | _=>false
theorem zJw {t:TypeId} {u:TypeDesc} (h:P.underlying t=some u) (w:World):(isAgg t).run P w= .ok (aggT u) w:=by
 simp only [isAgg,Sem.run_bind,run_underlying h,Result.andThen_ok]
 cases u<;>rfl
end
def btOf:TypeDesc→BT
 | .int _=> .int
 | .bool=> .bool
 | .string=> .str
 | .slice _=> .slice
 | .pointer _=> .ptr
 | .func _ _ _=> .func
 | _=> .other
theorem zDM {P:Program} {w:World} {t:TypeId} {x y:Value} {b:Bool} (h:∀d,(Op.equalIn (d+1) t x y).run P w= .ok b w):(Op.equal t x y).run P w= .ok b w:=h 9999
theorem zMc {P:Program} {w:World} {E:Env} {t:TypeId} {u:TypeDesc} (hu:P.underlying t=some u) {a b:PV} {va vb:Value} {c:Prop} {n:Bool}
  (h:zHq (btOf u) a=some (c,n)) (hc:c) (hn:zLw (btOf u) b=true) (ha:VR E w a va) (hb:VR E w b vb) (op:BinOp) (x y:Operand):
  eqGuard op t x y va vb=pure ()∧(Op.equal t va vb).run P w= .ok n w∧(binOp .eql t va vb=do pure (.bool (←Op.equal t va vb)))∧(binOp .neq t va vb=do pure (.bool (!(←Op.equal t va vb)))):=by
 cases u<;>simp only [btOf] at h hn<;>try (simp [zHq] at h;done)
 case slice e=>
  have hb':vb= .slice none 0 0:=by cases b<;>simp [zLw] at hn;simpa only [VR] using hb
  subst hb'
  unfold zHq at h
  split at h<;>(try simp only [Option.some.injEq,Prod.mk.injEq,reduceCtorEq] at h)<;>first | (obtain ⟨rfl,rfl⟩:=h) | skip
  all_goals try contradiction
  ·simp only [VR] at ha;subst ha
   exact ⟨by simp only [eqGuard_at_slice],zDM fun d=>by simp [Op.equalIn,run_underlying hu],rfl,rfl⟩
 case pointer e=>
  have hb':vb= .pointer none:=by
   cases b with
   | d x=>cases x<;>simp [zLw] at hn;simpa only [VR,DR] using hb
   | _=>simp [zLw] at hn
  subst hb'
  unfold zHq at h
  (repeat' split at h)<;>simp only [Option.some.injEq,Prod.mk.injEq,reduceCtorEq] at h<;>first | (obtain ⟨rfl,rfl⟩:=h) | skip
  all_goals try contradiction
  ·simp only [VR,DR] at ha;subst ha
   exact ⟨by simp only [eqGuard_at_pointer],zDM fun d=>by simp [Op.equalIn,run_underlying hu],rfl,rfl⟩
  ·rename_i hM
   simp only [VR] at ha;obtain ⟨bb,_,rfl⟩:=ha
   rw [zFg (by simpa using hM)]
   exact ⟨by simp only [eqGuard_at_pointer],zDM fun d=>by simp [Op.equalIn,run_underlying hu],rfl,rfl⟩
  ·simp only [VR] at ha;obtain ⟨bb,o,cc,el,fr,_,rfl,_⟩:=ha
   exact ⟨by simp only [eqGuard_at_pointer],zDM fun d=>by simp [Op.equalIn,run_underlying hu],rfl,rfl⟩
  ·simp only [VR,DR] at ha;obtain ⟨bb,o,vs,rfl,_⟩:=ha
   exact ⟨by simp only [eqGuard_at_pointer],zDM fun d=>by simp [Op.equalIn,run_underlying hu],rfl,rfl⟩
 case func ps rs v=>
  have hb':vb= .nilFunc:=by
   cases b with
   | d x=>cases x<;>simp [zLw] at hn;simpa only [VR,DR] using hb
   | _=>simp [zLw] at hn
  subst hb'
  unfold zHq at h
  split at h<;>(try simp only [Option.some.injEq,Prod.mk.injEq,reduceCtorEq] at h)<;>first | (obtain ⟨rfl,rfl⟩:=h) | skip
  all_goals try contradiction
  ·simp only [VR,DR] at ha;subst ha
   exact ⟨by simp only [eqGuard_at_nilFunc],zDM fun d=>by simp [Op.equalIn,run_underlying hu],rfl,rfl⟩
  ·simp only [VR] at ha;obtain ⟨fa,fb,rfl,_⟩:=ha
   exact ⟨by simp only [eqGuard_at_func],zDM fun d=>by simp [Op.equalIn,run_underlying hu],rfl,rfl⟩
  ·simp only [VR,DR] at ha;obtain ⟨fa,fb,rfl,_⟩:=ha
   exact ⟨by simp only [eqGuard_at_func],zDM fun d=>by simp [Op.equalIn,run_underlying hu],rfl,rfl⟩
def zJ5 (op:BinOp) (bt:BT) (a b:Option PV):Option (Bool×List D):=
 match op,bt,a,b with
 | .eql, .slice,some (.sl _ _ _ es),some .nils=>some (true,es)
 | .eql, .slice,some (.d (.lst es)),some .nils=>some (true,es)
 | .neq, .slice,some (.sl _ _ _ es),some .nils=>some (false,es)
 | .neq, .slice,some (.d (.lst es)),some .nils=>some (false,es)
 | _,_,_,_=>none
theorem zQZ {P:Program} {w:World} {t:TypeId} {e:TypeId} (hu:P.underlying t=some (.slice e)) (a:Option Addr) (n c:Nat):
  (Op.equal t (.slice a n c) (.slice none 0 0)).run P w= .ok a.isNone w:=by
 refine zDM fun d=> ?_
 cases a<;>simp [Op.equalIn,run_underlying hu]
theorem zST {P:Program} {w:World} {E:Env} {op:BinOp} {t:TypeId} {u:TypeDesc} (hu:P.underlying t=some u) {x y:Operand} {a b:Option PV} {va vb:Value} {e:Bool} {es:List D}
  (h:zJ5 op (btOf u) a b=some (e,es)) (ha:∀p,a=some p→VR E w p va) (hb:∀p,b=some p→VR E w p vb):
  ∃n:Bool,(do eqGuard op t x y va vb;binOp op t va vb:Sem Value).run P w= .ok (.bool n) w∧(es≠[]→n= !e):=by
 have hsl:∀e',u= .slice e'→∀v n c,va= .slice v n c→vb= .slice none 0 0→(op= .eql∧e=true∨op= .neq∧e=false)→(es≠[]→v.isNone=false)→
   ∃n:Bool,(do eqGuard op t x y va vb;binOp op t va vb:Sem Value).run P w= .ok (.bool n) w∧(es≠[]→n= !e):=by
  rintro e' rfl v n c rfl rfl hop hes
  rcases hop with ⟨rfl,rfl⟩ | ⟨rfl,rfl⟩
  ·refine ⟨v.isNone, ?_,fun h=>by simp [hes h]⟩
   simp only [eqGuard_at_slice,Sem.run_bind,Sem.run_pure,Result.andThen_ok,binOp,zQZ hu]
  ·refine ⟨!v.isNone, ?_,fun h=>by simp [hes h]⟩
   simp only [eqGuard_at_slice,Sem.run_bind,Sem.run_pure,Result.andThen_ok,binOp,zQZ hu]
 have row:∀t' sz off (q:PV) es',VR E w (.sl t' sz off es') va→∃v n c,va= .slice v n c∧(es'≠[]→v.isNone=false):=by
  intro t' sz off q es' hv
  simp only [VR] at hv
  rcases hv with ⟨h1,a,rfl⟩ | ⟨bb,o,cap,cc,el,fr,vs,h1,rfl,_⟩
  ·exact ⟨_,_,_,rfl,fun h=>absurd h1 h⟩
  ·exact ⟨_,_,_,rfl,fun _=>rfl⟩
 have lst:∀es',VR E w (.d (.lst es')) va→∃v n c,va= .slice v n c∧(es'≠[]→v.isNone=false):=by
  intro es' hv
  simp only [VR,DR] at hv
  rcases hv with ⟨h1,a,c,rfl⟩ | ⟨bb,o,cap,sz,vs,rfl,_⟩
  ·exact ⟨_,_,_,rfl,fun h=>absurd h1 h⟩
  ·exact ⟨_,_,_,rfl,fun _=>rfl⟩
 have hut:btOf u= .slice→∃e',u= .slice e':=by
  intro h;cases u<;>simp [btOf] at h;exact ⟨_,rfl⟩
 unfold zJ5 at h
 split at h
 all_goals (try (cases h;done))
 all_goals
  rename_i hbt
  obtain ⟨e',rfl⟩:=hut hbt
  simp only [Option.some.injEq,Prod.mk.injEq] at h
  obtain ⟨rfl,rfl⟩:=h
  have hb':=hb _ rfl
  simp only [VR] at hb'
  first
   | (obtain ⟨v,n,c,h1,h2⟩:=row _ _ _ .unk _ (ha _ rfl);exact hsl _ rfl v n c h1 hb' (by simp) h2)
   | (obtain ⟨v,n,c,h1,h2⟩:=lst _ (ha _ rfl);exact hsl _ rfl v n c h1 hb' (by simp) h2)
theorem zSK {P:Program} {w:World} {E:Env} {op:BinOp} {t:TypeId} {u:TypeDesc} (hu:P.underlying t=some u) {x y:Operand} {a b:PV} {va vb:Value}
  {c:Prop} {r:PV} (h:zO0 op (btOf u) a b=some (c,r)) (hc:c) (ha:VR E w a va) (hb:VR E w b vb):
  ∃v,(do eqGuard op t x y va vb;binOp op t va vb:Sem Value).run P w= .ok v w∧VR E w r v:=by
 unfold zO0 at h
 split at h
 ·rename_i k x k' y hbt
  simp only [VR,DR] at ha hb;subst ha;subst hb
  simp only [eqGuard_at_int,Sem.run_bind,Sem.run_pure,Result.andThen_ok]
  split at h
  ·simp only [Option.some.injEq,Prod.mk.injEq] at h;obtain ⟨rfl,rfl⟩:=h
   exact ⟨_,by simp [binOp,Op.shift,Int.not_lt.2 hc];rfl,by simp [VR,DR,sShl]⟩
  ·simp only [Option.some.injEq,Prod.mk.injEq] at h;obtain ⟨rfl,rfl⟩:=h
   exact ⟨_,by simp [binOp,Op.shift,Int.not_lt.2 hc];rfl,by simp [VR,DR,sShr]⟩
  ·split at h
   ·rename_i hk;subst hk
    unfold iRes at h
    split at h<;>simp only [Option.map_some,Option.map_none,Option.some.injEq,Prod.mk.injEq,reduceCtorEq] at h<;>obtain ⟨rfl,rfl⟩:=h<;>
     first
      | exact ⟨_,by simp [binOp,Op.intArith,Op.intBits,Op.intCmp];rfl,by simp [VR,DR,bAnd,bOr,bXor,zUl]⟩
      | exact ⟨_,by simp [binOp,Op.intDiv,hc];rfl,by simp [VR,DR]⟩
   ·cases h
 ·rename_i x y hbt
  simp only [VR,DR] at ha hb;subst ha;subst hb
  have hu':P.underlying t=some .bool:=by cases u<;>simp [btOf] at hbt<;>exact hu
  simp only [eqGuard_at_bool,Sem.run_bind,Sem.run_pure,Result.andThen_ok]
  split at h
  ·simp only [Option.some.injEq,Prod.mk.injEq] at h;obtain ⟨rfl,rfl⟩:=h
   exact ⟨_,run_eql_bool w t x y hu',by simp [VR,DR]⟩
  ·simp only [Option.some.injEq,Prod.mk.injEq] at h;obtain ⟨rfl,rfl⟩:=h
   exact ⟨_,run_neq_bool w t x y hu',by simp [VR,DR]⟩
  ·cases h
 ·rename_i x y hbt
  simp only [VR,DR] at ha hb;subst ha;subst hb
  simp only [eqGuard_at_string,Sem.run_bind,Sem.run_pure,Result.andThen_ok]
  unfold sRes at h
  split at h<;>simp only [Option.map_some,Option.map_none,Option.some.injEq,Prod.mk.injEq,reduceCtorEq] at h<;>obtain ⟨rfl,rfl⟩:=h<;>
   exact ⟨_,by simp [binOp,Op.stringOp];rfl,by simp [VR,DR]⟩
 ·split at h
  ·rename_i c' n h1 h2
   simp only [Option.some.injEq,Prod.mk.injEq] at h;obtain ⟨rfl,rfl⟩:=h
   obtain ⟨k1,k2,k3,_⟩:=zMc hu h1 hc h2 ha hb .eql x y
   exact ⟨.bool n,by simp only [k1,k3,Sem.run_bind,Sem.run_pure,Result.andThen_ok,k2],by simp [VR,DR]⟩
  ·rename_i c' n h1 h2
   simp only [Option.some.injEq,Prod.mk.injEq] at h;obtain ⟨rfl,rfl⟩:=h
   obtain ⟨k1,k2,_,k4⟩:=zMc hu h1 hc h2 ha hb .neq x y
   exact ⟨.bool (!n),by simp only [k1,k4,Sem.run_bind,Sem.run_pure,Result.andThen_ok,k2],by simp [VR,DR]⟩
  ·cases h
theorem zT5 {P:Program} {w:World} {E:Env} {op:UnOp} {a:PV} {va:Value} {c:Prop} {r:PV} (h:zRK op a=some (c,r)) (ha:VR E w a va):
  ∃v,(Op.unary op va).run P w= .ok v w∧VR E w r v:=by
 unfold zRK at h
 split at h<;>simp only [Option.some.injEq,Prod.mk.injEq,reduceCtorEq] at h<;>obtain ⟨rfl,rfl⟩:=h<;>simp only [VR,DR] at ha<;>subst ha
 ·exact ⟨_,by simp [Op.unary,Op.intArith];rfl,by simp [VR,DR]⟩
 ·exact ⟨_,by simp [Op.unary,Op.intBits];rfl,by simp [VR,DR,bXor]⟩
 ·exact ⟨_,by simp [Op.unary];rfl,by simp [VR,DR]⟩
end Go.Proofs.YtnmlihfpenjeiaaGreat.Abs
namespace Go.Proofs.YtnmlihfpenjeiaaGreat.Abs
open Go Go.RowKit
set_option linter.unusedVariables false
set_option linter.unusedSimpArgs false
inductive AOp where
 | mov (x:Opd)
 | pick (c a b:Opd)
 | bin (op:BinOp) (bt:BT) (x y:Opd)
 | un (op:UnOp) (x:Opd)
 | eqA (neg:Bool) (k:IntKind) (len:Nat) (x y:Opd)
 | convI (k:IntKind) (x:Opd)
 | convIF (k:FloatKind) (x:Opd)
 | convFI (k:IntKind) (x:Opd)
 | convS (x:Opd)
 | convB (el:Nat) (x:Opd)
 | mark (x:Opd)
 | halt
 | nilck (x:Opd)
 | mkif (t:Nat) (x:Opd)
 | mkfn (fn:Fn) (first captured:List Opd)
 | fieldA (off:Nat) (x:Opd)
 | field (ag:Bool) (off sz:Nat) (x:Opd)
 | idxA (sz:Nat) (x i:Opd)
 | idxAr (sz len:Nat) (x i:Opd)
 | idxS (x i:Opd)
 | idxV (ag:Bool) (sz len:Nat) (x i:Opd)
 | load (ag:Bool) (sz:Nat) (a:Opd)
 | sliceS (sz:Nat) (x:Opd) (lo hi mx:Option Opd)
 | extract (x:Opd) (j:Nat)
 | len (x:Opd)
 | lenS (x:Opd)
 | capN (x:Opd)
 | build (z:List D) (parts:List (Nat×Nat×Opd))
 | mnmx (mx:Bool) (x y:Opd)
 | mn3 (x y z:Opd)
 | tass (x:Opd) (t:Nat) (ok:Bool)
 | mkmap (b:Bool)
 | insrt (kk:IntKind) (m k x:Opd)
 | look (kk:IntKind) (z:D) (ok:Bool) (m k:Opd)
 | lookB (ok:Bool) (m k:Opd)
 | lookD (kk:IntKind) (z:D) (ok:Bool) (m k:Opd)
 | mlen (m:Opd)
 | alloc (el sz:Nat) (z:List D)
 | box (el:Nat) (x:Opd)
 | bslice (el sz:Nat) (parts:List Opd)
 | mkS (el sz bytes:Nat) (z:D) (l c:Opd)
 | store (sz:Nat) (a x:Opd)
 | app (el sz bytes:Nat) (x y:Opd)
 | appZ (el sz bytes:Nat) (z:D) (x y:Opd)
 | copy (sz:Nat) (x y:Opd)
 | call (f:Nat) (args:List Opd)
 | callv (f:Opd) (args:List Opd)
 | invk (x:Opd) (m:String) (args:List Opd)
 deriving Inhabited
def D.isU8:D→Prop
 | .int .u8 _=>True
 | _=>False
def D.byte:D→UInt8
 | .int _ n=>UInt8.ofNat n.toNat
 | _=>0
def zD6 (es:List D):ByteArray:=⟨(es.map D.byte).toArray⟩
def D.ints (k:IntKind):List D→Option (List Int)
 | []=>some []
 | .int k' n::r=>if k'=k then (D.ints k r).map (n::·) else none
 | _=>none
def PV.ints (k:IntKind):List PV→Option (List Int)
 | []=>some []
 | .d (.int k' n)::r=>if k'=k then (PV.ints k r).map (n::·) else none
 | _=>none
def PV.intsA (k:IntKind):Option PV→Option (List Int)
 | some (.agg ps)=>PV.ints k ps
 | some (.d (.agg ds))=>D.ints k ds
 | _=>none
def asInt? :Option PV→Option (IntKind×Int)
 | some (.d (.int k n))=>some (k,n)
 | _=>none
def ix (f:Opd→Option PV) (o:Opd):Option (IntKind×Int):=asInt? (f o)
def zFE (es:List D) (i:Nat):D:=es.getD i default
def cutL {α:Type} (es:List α) (l h:Nat):List α:=(es.take h).drop l
def zHb (f:Opd→Option PV) (o:Option Opd) (d:Nat):Option (Option Int×Nat):=
 match o with
 | none=>some (none,d)
 | some x=>(ix f x).map fun r=>(some r.2,r.2.toNat)
def inB (o:Option Int) (lo hi:Nat):Prop:=
 match o with
 | none=>lo≤hi
 | some n=>(lo:Int)≤n∧n≤(hi:Int)
def PV.cells:PV→List PV
 | .agg cs=>cs
 | .d (.agg cs)=>cs.map .d
 | p=>[p]
def PV.known:PV→Bool
 | .unk=>false
 | .tup _=>false
 | _=>true
def zP:D→PV
 | .lst []=> .nils
 | x=> .d x
def zP7 (z:List PV):List (Nat×Nat×PV)→Option (List PV)
 | []=>some z
 | (off,sz,p)::rest=>
  if p.cells.length=sz∧off+sz≤z.length∧p.known=true then zP7 (z.take off++p.cells++z.drop (off+sz)) rest else none
def zA8 (f:Opd→Option PV):List Opd→Option (List PV)
 | []=>some []
 | x::xs=>match f x,zA8 f xs with
  | some p,some ps=>some (p::ps)
  | _,_=>none
def rop (op:AOp) (f:Opd→Option PV) (bx:Tg→Option (List PV)):Option (Prop×PV):=
 match op with
 | .mov x=>some (True,(f x).getD .unk)
 | .lookB ok m k=>match f m,f k with
  | some (.ptr t _),some (.d (.int .i64 n))=>if t.isM=true then (match bx t with
   | some [.d (.mp l)]=>some (True,if ok=true then .tup [.d (.bool (getM l n)), .d (.bool (hasM l n))] else .d (.bool (getM l n)))
   | _=>none) else none
  | _,_=>none
 | .lookD kk z ok m k=>match f m,f k with
  | some (.ptr t _),some (.d (.int k' n))=>if t.isM=true∧k'=kk then (match bx t with
   | some cs=>(match zLc kk cs with
    | some ps=>some (True,if ok=true then .tup [.d (lookD n ps z), .d (.bool (hasK n (ps.map Prod.fst)))] else .d (lookD n ps z))
    | none=>none)
   | none=>none) else none
  | _,_=>none
 | .mlen m=>match f m with
  | some (.ptr t _)=>if t.isM=true then (match bx t with
   | some [.d (.mp l)]=>some (True, .d (.int .i64 (l.length:Int)))
   | _=>none) else none
  | _=>none
 | .pick c a b=>match f c with
  | some (.d (.bool t))=>some (True,bif t then (f a).getD .unk else (f b).getD .unk)
  | _=>none
 | .bin op bt x y=>match f x,f y with
  | some a,some b=>zO0 op bt a b
  | _,_=>none
 | .eqA neg k len x y=>match PV.intsA k (f x),PV.intsA k (f y) with
  | some xs,some ys=>if xs.length=len∧ys.length=len then some (True, .d (.bool (if neg=true then !(xs==ys) else xs==ys))) else none
  | _,_=>none
 | .un op x=>match f x with
  | some a=>zRK op a
  | none=>none
 | .convI k x=>match f x with
  | some (.d (.int _ n))=>some (True, .d (.int k (k.wrap n)))
  | _=>none
 | .convIF k x=>match f x with
  | some (.d (.int _ n))=>some (True, .d (.flt k (floatOfInt k n)))
  | _=>none
 | .convFI k x=>match f x with
  | some (.d (.flt s b))=>some ((floatToIntVal s b k).isSome=true, .d (.int k ((floatToIntVal s b k).getD 0)))
  | _=>none
 | .convS x=>match f x with
  | some (.d (.lst es))=>some (∀e∈es,e.isU8, .d (.str (zD6 es)))
  | some (.sl _ 1 _ es)=>some (∀e∈es,e.isU8, .d (.str (zD6 es)))
  | some .nils=>some (True, .d (.str (zD6 [])))
  | _=>none
 | .nilck x=>match f x with
  | some (.ptr k o)=>if k.isM=true then none else some (True, .ptr k o)
  | some (.ep t sz i g e)=>some (True, .ep t sz i g e)
  | some (.d (.cp cs g))=>some (True, .d (.cp cs g))
  | _=>none
 | .mkif t x=>match f x with
  | some (.d y)=>some (True, .d (.ifc t y))
  | some p=>some (True, .ifc t p)
  | none=>none
 | .mkfn fn a b=>match zA8 f a,zA8 f b with
  | some [],some []=>some (True, .d (.clo fn [] []))
  | some a',some b'=>some (True, .clo fn a' b')
  | _,_=>none
 | .fieldA off x=>match f x with
  | some (.ptr k o)=>if k.isM=true then none else some (True, .ptr k (o+off))
  | some (.ep t sz i g e)=>some (True, .ep t sz i (some (g.getD 0+off)) e)
  | some (.d (.cp cs g))=>some (True, .d (.cp cs (g+off)))
  | _=>none
 | .field ag off sz x=>match f x with
  | some (.d (.agg cs))=>if ag then some (off+sz≤cs.length, .d (.agg ((cs.drop off).take sz))) else some (off<cs.length, .d (zFE cs off))
  | some (.agg cs)=>if ag then some (off+sz≤cs.length, .agg ((cs.drop off).take sz)) else some (off<cs.length,cs.getD off .unk)
  | _=>none
 | .idxA sz x i=>match f x,ix f i with
  | some (.sl t sz' off es),some (_,n)=>if sz'=sz then some (0≤n∧n<(es.length:Int), .ep t sz (off+n.toNat) none (some (zFE es n.toNat))) else none
  | some (.d (.lst es)),some (_,n)=>some (0≤n∧n<(es.length:Int)∧(zFE es n.toNat).sz=sz, .d (.cp (zFE es n.toNat).cells 0))
  | _,_=>none
 | .idxAr sz len x i=>match f x,ix f i with
  | some (.ptr k o),some (_,n)=>if k.isM=true then none else some (0≤n∧n<(len:Int), .ptr k (o+n.toNat*sz))
  | some (.ep t sz' j g e),some (_,n)=>some (0≤n∧n<(len:Int), .ep t sz' j (some (g.getD 0+n.toNat*sz)) e)
  | some (.d (.cp cs g)),some (_,n)=>some (0≤n∧n<(len:Int), .d (.cp cs (g+n.toNat*sz)))
  | _,_=>none
 | .idxS x i=>match f x,ix f i with
  | some (.d (.str s)),some (_,n)=>some (0≤n∧n<(s.size:Int), .d (.int .u8 ((s.data.getD n.toNat 0).toNat:Int)))
  | _,_=>none
 | .idxV ag sz len x i=>match f x,ix f i with
  | some (.d (.agg cs)),some (_,n)=>if ag then some (0≤n∧n<(len:Int)∧n.toNat*sz+sz≤cs.length, .d (.agg ((cs.drop (n.toNat*sz)).take sz)))
   else some (0≤n∧n<(len:Int)∧n.toNat*sz<cs.length, .d (zFE cs (n.toNat*sz)))
  | some (.agg cs),some (_,n)=>if ag then some (0≤n∧n<(len:Int)∧n.toNat*sz+sz≤cs.length, .agg ((cs.drop (n.toNat*sz)).take sz))
   else some (0≤n∧n<(len:Int)∧n.toNat*sz<cs.length,cs.getD (n.toNat*sz) .unk)
  | _,_=>none
 | .load ag sz a=>match f a with
  | some (.ptr k o)=>if k.isM=true then none else match bx k with
   | some cs=>if ag then some (o+sz≤cs.length, .agg ((cs.drop o).take sz)) else some (o<cs.length,cs.getD o .unk)
   | none=>none
  | some (.ep t sz' i g (some e))=>if ag then some (g.getD 0+sz≤e.cells.length, .d (.agg ((e.cells.drop (g.getD 0)).take sz))) else some (g.getD 0<e.cells.length, .d (zFE e.cells (g.getD 0)))
  | some (.d (.cp cs g))=>if ag then some (g+sz≤cs.length, .d (.agg ((cs.drop g).take sz))) else some (g<cs.length, .d (zFE cs g))
  | _=>none
 | .sliceS sz x lo hi none=>match f x with
  | some (.sl t sz' off es)=>match zHb f lo 0,zHb f hi es.length with
   | some (bl,l),some (bh,h)=>if sz'=sz then some (inB bh 0 es.length∧inB bl 0 h, .sl t sz (off+l) (cutL es l h)) else none
   | _,_=>none
  | some (.d (.lst es))=>match zHb f lo 0,zHb f hi es.length with
   | some (bl,l),some (bh,h)=>some (inB bh 0 es.length∧inB bl 0 h∧(∀e∈es,e.sz=sz), .d (.lst (cutL es l h)))
   | _,_=>none
  | some .nils=>match zHb f lo 0,zHb f hi 0 with
   | some (bl,l),some (bh,h)=>some (inB bh 0 0∧inB bl 0 h, .nils)
   | _,_=>none
  | _=>none
 | .extract x j=>match f x with
  | some (.tup vs)=>match vs[j]? with
   | some p=>some (True,p)
   | none=>none
  | _=>none
 | .len x=>match f x with
  | some (.d (.lst es))=>some (True, .d (.int .i64 (es.length:Int)))
  | some (.sl _ _ _ es)=>some (True, .d (.int .i64 (es.length:Int)))
  | some .nils=>some (True, .d (.int .i64 0))
  | _=>none
 | .capN x=>match f x with
  | some .nils=>some (True, .d (.int .i64 0))
  | _=>none
 | .lenS x=>match f x with
  | some (.d (.str s))=>some (True, .d (.int .i64 (s.size:Int)))
  | _=>none
 | .build z parts=>match zA8 f (parts.map fun r=>r.2.2) with
  | some ps=>(zP7 (z.map zP) ((parts.zip ps).map fun r=>(r.1.1,r.1.2.1,r.2))).map fun cs=>(True, .agg cs)
  | none=>none
 | .mnmx mx x y=>match f x,f y with
  | some (.d (.int k a)),some (.d (.int _ b))=>some (True, .d (.int k (if mx then (if b>a then b else a) else (if b<a then b else a))))
  | _,_=>none
 | .mn3 x y z=>match f x,f y,f z with
  | some (.d (.int k a)),some (.d (.int _ b)),some (.d (.int _ c))=>some (True, .d (.int k (if c<(if b<a then b else a) then c else (if b<a then b else a))))
  | _,_,_=>none
 | .tass x t ok=>match f x with
  | some (.d (.ifc u y))=>if u=t then some (True,if ok then .tup [.d y, .d (.bool true)] else .d y) else none
  | some (.ifc u y)=>if u=t then some (True,if ok then .tup [y, .d (.bool true)] else y) else none
  | _=>none
 | _=>none
theorem Addr.add_mk (b o n:Nat):Addr.add ⟨b,o,none⟩ n=⟨b,o+n,none⟩:=Addr.add_lit b o n
theorem zOv {es:List D} {i:Nat} (h:i<es.length):es[i]? =some (zFE es i):=by
 simp [zFE,List.getD_eq_getElem?_getD,List.getElem?_eq_getElem h]
theorem zYt {vs:List Value} {sz:Nat} (h:∀u∈vs,u.cells.size=sz) {i:Nat} {u:Value} (hi:vs[i]? =some u):
  ∃l r,flat vs=l++u.cells.toList++r∧l.length=i*sz:=by
 induction vs generalizing i with
 | nil=>simp at hi
 | cons v vs ih=>
  cases i with
  | zero=>
   simp at hi;subst hi
   exact ⟨[],flat vs,by simp [flat],by simp⟩
  | succ i=>
   simp at hi
   obtain ⟨l,r,h1,h2⟩:=ih (fun u hu=>h u (List.mem_cons_of_mem _ hu)) hi
   refine ⟨v.cells.toList++l,r,by simp only [flat,List.flatMap_cons] at h1⊢;rw [h1];simp, ?_⟩
   have:=h v (by simp)
   simp [h2,this,Nat.add_mul,Nat.add_comm]
theorem zAC.elem {w:World} {b o sz:Nat} {vs:List Value} (hc:zAC w b o (flat vs)) (h:∀u∈vs,u.cells.size=sz) {i:Nat} {u:Value} (hi:vs[i]? =some u):
  zAC w b (o+i*sz) u.cells.toList:=by
 obtain ⟨l,r,h1,h2⟩:=zYt h hi
 rw [h1,zAC.append,zAC.append] at hc
 rw [←h2];exact hc.1.2
theorem zBe {vs:List Value} {sz:Nat} (h:∀u∈vs,u.cells.size=sz):(flat vs).length=vs.length*sz:=by
 induction vs with
 | nil=>simp [flat]
 | cons v vs ih=>
  have h1:=h v (by simp)
  have h2:=ih fun u hu=>h u (List.mem_cons_of_mem _ hu)
  simp only [flat,List.flatMap_cons,List.length_append,Array.length_toList] at h2⊢
  rw [h1,h2,List.length_cons,Nat.add_mul];omega
theorem zG2 (xs ys:List Value):flat (xs++ys)=flat xs++flat ys:=by simp [flat]
theorem zIP {vs:List Value} {sz:Nat} (h:∀u∈vs,u.cells.size=sz) (n:Nat):flat (vs.take n)=(flat vs).take (n*sz):=by
 by_cases hn:n≤vs.length
 ·have h1:flat vs=flat (vs.take n)++flat (vs.drop n):=by rw [←zG2,List.take_append_drop]
  have h2:=zBe (vs:=vs.take n) (sz:=sz) fun u hu=>h u (List.mem_of_mem_take hu)
  have h3:(flat (vs.take n)).length=n*sz:=by rw [h2,List.length_take,Nat.min_eq_left hn]
  conv=>rhs;rw [h1,←h3,List.take_left]
 ·rw [List.take_of_length_le (by omega),List.take_of_length_le]
  rw [zBe h];exact Nat.mul_le_mul_right _ (by omega)
theorem zKj {vs:List Value} {sz:Nat} (h:∀u∈vs,u.cells.size=sz) (n:Nat):flat (vs.drop n)=(flat vs).drop (n*sz):=by
 by_cases hn:n≤vs.length
 ·have h1:flat vs=flat (vs.take n)++flat (vs.drop n):=by rw [←zG2,List.take_append_drop]
  have h2:=zBe (vs:=vs.take n) (sz:=sz) fun u hu=>h u (List.mem_of_mem_take hu)
  have h3:(flat (vs.take n)).length=n*sz:=by rw [h2,List.length_take,Nat.min_eq_left hn]
  rw [h1,←h3,List.drop_left]
 ·rw [List.drop_of_length_le (by omega),List.drop_of_length_le]
  ·rfl
  ·rw [zBe h];exact Nat.mul_le_mul_right _ (by omega)
theorem zAC.drop {w:World} {b o:Nat} {cs:List Value} (h:zAC w b o cs) (n:Nat):zAC w b (o+n) (cs.drop n):=by
 intro i c hc
 rw [List.getElem?_drop] at hc
 have:=h (n+i) c hc
 rwa [←Nat.add_assoc] at this
theorem zAC.take {w:World} {b o:Nat} {cs:List Value} (h:zAC w b o cs) (n:Nat):zAC w b o (cs.take n):=by
 intro i c hc
 rw [List.getElem?_take] at hc
 split at hc
 ·exact h i c hc
 ·cases hc
theorem zHi {P:Program} {w:World} {b o:Nat} {cs:List Value} (h:zAC w b o cs):
  (loadCells ⟨b,o,none⟩ cs.length).run P w= .ok cs.toArray w:=by
 have:=run_loadCells_list (P:=P) (w:=w) ⟨b,o,none⟩ cs (fun j v hv=>by rw [Addr.add_mk];exact h j v hv)
 simpa using this
theorem zTW {P:Program} {w:World} {b o:Nat} {v:Value} (h:w.cell? ⟨b,o,none⟩=some v):(load ⟨b,o,none⟩).run P w= .ok v w:=by
 show Sem.run P (.load .plain _ .pure) w=_
 simp [Sem.run,h]
theorem zHU {P:Program} {w:World} {t:TypeId} {u:TypeDesc} {i:TypeInfo} (hu:P.underlying t=some u) (hi:P.info? t=some i) (hg:aggT u=true)
  {b o:Nat} {cs:List Value} (h:zAC w b o cs) (hl:cs.length=i.size):(loadVar t ⟨b,o,none⟩).run P w= .ok (.agg cs.toArray) w:=by
 simp only [loadVar,Sem.run_bind,zJw hu,Result.andThen_ok,hg,if_true,zBd hi,←hl,zHi h,Sem.run_pure]
theorem zF2 {P:Program} {w:World} {t:TypeId} {u:TypeDesc} (hu:P.underlying t=some u) (hg:aggT u=false)
  {b o:Nat} {v:Value} (h:w.cell? ⟨b,o,none⟩=some v):(loadVar t ⟨b,o,none⟩).run P w= .ok v w:=by
 simp only [loadVar,Sem.run_bind,zJw hu,Result.andThen_ok,hg,Bool.false_eq_true,if_false,zTW h]
theorem DRs.slice {pr:Nat→Prop} {w:World} {xs:List D} {vs:List Value} (h:DRs pr w xs vs) (o n:Nat):DRs pr w ((xs.drop o).take n) ((vs.drop o).take n):=
 DRs.take n (DRs.drop o h)
theorem OneC.slice {vs:List Value} (h:OneC vs) (o n:Nat):OneC ((vs.drop o).take n):=
 fun c hc=>h c (List.mem_of_mem_drop (List.mem_of_mem_take hc))
theorem VRs.take {E:Env} {w:World}:∀{xs:List PV} {vs:List Value} (n:Nat),VRs E w xs vs→VRs E w (xs.take n) (vs.take n)
 | [],vs,n,h=>by simp only [VRs] at h;subst h;simp [VRs]
 | x::xs,vs,0,h=>by simp [VRs]
 | x::xs,vs,n+1,h=>by
  simp only [VRs] at h
  obtain ⟨u,us,rfl,h2,h3⟩:=h
  simp only [List.take_succ_cons,VRs]
  exact ⟨u,_,rfl,h2,VRs.take n h3⟩
theorem VRs.drop {E:Env} {w:World}:∀{xs:List PV} {vs:List Value} (n:Nat),VRs E w xs vs→VRs E w (xs.drop n) (vs.drop n)
 | [],vs,n,h=>by simp only [VRs] at h;subst h;simp [VRs]
 | x::xs,vs,0,h=>by simpa using h
 | x::xs,vs,n+1,h=>by
  simp only [VRs] at h
  obtain ⟨u,us,rfl,h2,h3⟩:=h
  simpa using VRs.drop n h3
theorem VRs.at {E:Env} {w:World} {xs:List PV} {vs:List Value} {i:Nat} (h:VRs E w xs vs) (hi:i<xs.length):∃u,vs[i]? =some u∧VR E w (xs.getD i .unk) u:=by
 have:xs[i]? =some (xs.getD i .unk):=by simp [List.getD_eq_getElem?_getD,List.getElem?_eq_getElem hi]
 exact h.getElem? this
theorem DRs.at {pr:Nat→Prop} {w:World} {xs:List D} {vs:List Value} {i:Nat} (h:DRs pr w xs vs) (hi:i<xs.length):∃u,vs[i]? =some u∧DR pr w (zFE xs i) u:=
 h.getElem? (zOv hi)
theorem VR.cells {E:Env} {w:World} {p:PV} {v:Value} (h:VR E w p v) (hp:p.known=true):VRs E w p.cells v.cells.toList:=by
 cases p with
 | unk=>cases hp
 | agg cs=>
  simp only [VR] at h
  obtain ⟨arr,rfl,h0,h2⟩:=h
  simpa [Value.cells,PV.cells] using h2
 | d x=>
  simp only [VR] at h
  have h1:=h.cells
  cases x with
  | agg cs=>
   simp only [D.cells] at h1
   simp only [PV.cells]
   generalize v.cells.toList=vs at h1
   clear h hp
   induction cs generalizing vs with
   | nil=>simpa [VRs,DRs] using h1
   | cons c cs ih=>
    simp only [DRs] at h1
    obtain ⟨u,us,rfl,h2,h3⟩:=h1
    simp only [List.map_cons,VRs]
    exact ⟨u,us,rfl,by simpa only [VR] using h2,ih us h3⟩
  | _=>
   simp only [D.cells,DRs] at h1
   obtain ⟨u,us,h2,h3,rfl⟩:=h1
   simp only [PV.cells,VRs]
   exact ⟨u,_,h2,by simpa only [VR] using h3,rfl⟩
 | nils=>have h':=h;simp only [VR] at h;subst h;simp only [PV.cells,VRs,Value.cells];exact ⟨_,_,rfl,h',rfl⟩
 | sl t sz off es=>
  have h':=h
  simp only [VR] at h
  rcases h with ⟨_,a,rfl⟩ | ⟨b,o,cap,c,el,fr,vs,_,rfl,_⟩<;>(simp only [PV.cells,VRs,Value.cells];exact ⟨_,_,rfl,h',rfl⟩)
 | ptr k o=>
  have h':=h;simp only [VR] at h;obtain ⟨b,_,rfl⟩:=h
  cases hM:k.isM<;>(simp only [boxV,hM,cond_true,cond_false] at h'⊢;simp only [PV.cells,VRs,Value.cells];exact ⟨_,_,rfl,h',rfl⟩)
 | ep t sz i g e=>have h':=h;simp only [VR] at h;obtain ⟨b,o,c,el,fr,_,rfl,_⟩:=h;simp only [PV.cells,VRs,Value.cells];exact ⟨_,_,rfl,h',rfl⟩
 | clo fn a b=>have h':=h;simp only [VR] at h;obtain ⟨fa,fb,rfl,_⟩:=h;simp only [PV.cells,VRs,Value.cells];exact ⟨_,_,rfl,h',rfl⟩
 | ifc t x=>have h':=h;simp only [VR] at h;obtain ⟨u,rfl,_⟩:=h;simp only [PV.cells,VRs,Value.cells];exact ⟨_,_,rfl,h',rfl⟩
 | tup xs=>cases hp
theorem VR.one {E:Env} {w:World} {p:PV} {v:Value} (h:VR E w p v) (hp:p.known=true):OneC v.cells.toList:=by
 cases p with
 | unk=>cases hp
 | agg cs=>
  simp only [VR] at h
  obtain ⟨arr,rfl,h0,h2⟩:=h
  simpa [Value.cells] using h0
 | d x=>simp only [VR] at h;exact h.one
 | nils=>simp only [VR] at h;subst h;simp [Value.cells,OneC,Value.oneCell']
 | sl t sz off es=>
  simp only [VR] at h
  rcases h with ⟨_,a,rfl⟩ | ⟨b,o,cap,c,el,fr,vs,_,rfl,_⟩<;>simp [Value.cells,OneC,Value.oneCell']
 | ptr k o=>simp only [VR] at h;obtain ⟨b,_,rfl⟩:=h;cases hM:k.isM<;>simp [boxV,hM,Value.cells,OneC,Value.oneCell']
 | ep t sz i g e=>simp only [VR] at h;obtain ⟨b,o,c,el,fr,_,rfl,_⟩:=h;simp [Value.cells,OneC,Value.oneCell']
 | clo fn a b=>simp only [VR] at h;obtain ⟨fa,fb,rfl,_⟩:=h;simp [Value.cells,OneC,Value.oneCell']
 | ifc t x=>simp only [VR] at h;obtain ⟨u,rfl,_⟩:=h;simp [Value.cells,OneC,Value.oneCell']
 | tup xs=>cases hp
theorem zRM {pr:Nat→Prop} {w:World} {es vs} {b o sz:Nat} (h4:∀u∈vs,u.cells.size=sz) (h5:zAC w b o (flat vs)) (h6:DRs pr w es vs) {i:Nat} (hi:i<es.length):
  ∃u,DR pr w (zFE es i) u∧u.cells.size=sz∧zAC w b (o+i*sz) u.cells.toList:=by
 obtain ⟨u,h7,h8⟩:=h6.at hi
 exact ⟨u,h8,h4 u (List.mem_of_getElem? h7),h5.elem h4 h7⟩
end Go.Proofs.YtnmlihfpenjeiaaGreat.Abs
namespace Go.Proofs.YtnmlihfpenjeiaaGreat.Abs
open Go Go.RowKit
set_option linter.unusedVariables false
set_option linter.unusedSimpArgs false
def trOs:List Operand→Option (List Opd)
 | []=>some []
 | x::xs=>match trO x,trOs xs with
  | some y,some ys=>some (y::ys)
  | _,_=>none
def trOo:Option Operand→Option (Option Opd)
 | none=>some none
 | some x=>(trO x).map some
def dV:Value→Option D
 | .bool b=>some (.bool b)
 | .int k n=>some (.int k n)
 | .float k n=>some (.flt k n)
 | .string s=>some (.str s)
 | .pointer none=>some .nilptr
 | .slice none 0 0=>some (.lst [])
 | .map none=>some .nilmap
 | .nilFunc=>some .nilfn
 | .nilIface=>some .nilif
 | _=>none
def dVs:List Value→Option (List D)
 | []=>some []
 | x::xs=>match dV x,dVs xs with
  | some y,some ys=>some (y::ys)
  | _,_=>none
def zIE (P:Program) (t:TypeId):Option (List D):=
 match P.info? t with
 | some i=>match i.zero with
  | some z=>dVs z.cells.toList
  | none=>none
 | none=>none
def zH9 (P:Program) (t:TypeId) (i:Nat):Option (Nat×Nat):=
 match P.underlying t with
 | some (.struct fs)=>match fs[i]? with
  | some f=>(P.info? f.type).map fun j=>(f.offset,j.size)
  | none=>none
 | some (.array _ e)=>(P.info? e).map fun j=>(i*j.size,j.size)
 | _=>none
def zJJ (P:Program) (t:TypeId):List (Nat×Operand)→Option (List (Nat×Nat×Opd))
 | []=>some []
 | (i,x)::r=>match zH9 P t i,trO x,zJJ P t r with
  | some (o,s),some y,some ys=>some ((o,s,y)::ys)
  | _,_,_=>none
def zJz (P:Program) (t:TypeId):Option D:=
 match P.info? t,P.underlying t,zIE P t with
 | some i,some u,some z=>if z.length=i.size∧i.size≠0 then (if aggT u then some (.agg z) else match z with
  | [x]=>some x
  | _=>none) else none
 | _,_,_=>none
def zJX (P:Program) (t:TypeId):Bool:=
 match P.underlying t with
 | some (.struct fs)=>fs.all fun f=>(P.info? f.type).isSome
 | some (.array _ e)=>(P.info? e).isSome
 | _=>true
def arrE (P:Program) (op:BinOp) (t e:TypeId):Option (Bool×IntKind):=match P.underlying e,op with
 | some (.int k), .eql=>if P.eqGuardType P.depth t=false∧(P.info? e).isSome=true∧(P.info? e).map (·.size)=some 1 then some (false,k) else none
 | some (.int k), .neq=>if P.eqGuardType P.depth t=false∧(P.info? e).isSome=true∧(P.info? e).map (·.size)=some 1 then some (true,k) else none
 | _,_=>none
def intF (P:Program) (k:IntKind):Nat→List Field→Bool
 | _,[]=>true
 | i,f::fs=>decide (f.name≠ "_"∧f.offset=i)&&(match P.underlying f.type with
  | some (.int k')=>decide (k'=k)
  | _=>false)&&intF P k (i+1) fs
def zZR (P:Program):List Field→Option IntKind
 | f::_=>match P.underlying f.type with
  | some (.int k)=>some k
  | _=>none
 | []=>none
def strE (P:Program) (op:BinOp) (t:TypeId) (fs:Array Field):Option (Bool×IntKind):=match zZR P fs.toList,op with
 | some k, .eql=>if P.eqGuardType P.depth t=false∧P.stoodInHeld t=false∧intF P k 0 fs.toList=true then some (false,k) else none
 | some k, .neq=>if P.eqGuardType P.depth t=false∧P.stoodInHeld t=false∧intF P k 0 fs.toList=true then some (true,k) else none
 | _,_=>none
def mapT (P:Program) (t:TypeId):Option (TypeId×IntKind×TypeId):=match P.underlying t with
 | some (.map kt et)=>match P.underlying kt with
  | some (.int kk)=>some (kt,kk,et)
  | _=>none
 | _=>none
theorem zJB {P:Program} {t kt et:TypeId} {kk:IntKind} (h:mapT P t=some (kt,kk,et)):P.underlying t=some (.map kt et)∧P.underlying kt=some (.int kk):=by
 unfold mapT at h
 split at h
 ·rename_i kt' et' h1
  split at h
  ·rename_i kk' h2
   simp only [Option.some.injEq,Prod.mk.injEq] at h;obtain ⟨rfl,rfl,rfl⟩:=h
   exact ⟨h1,h2⟩
  ·cases h
 ·cases h
def zJE (P:Program) (t:TypeId):Option D:=match P.info? t with
 | some i=>match i.zero with
  | some (.agg cs)=>(dVs cs.toList).map .agg
  | some v=>dV v
  | none=>none
 | none=>none
def zZV:D→Bool
 | .agg cs=> !cs.isEmpty&&cs.all fun x=>match x with
  | .nilfn=>true
  | _=>false
 | _=>false
def zPS (P:Program) (q:TypeId×IntKind×TypeId):Bool:=match q.2.1,zJE P q.2.2 with
 | .i64,some (.bool false)=>true
 | _,_=>false
theorem zT8 {P:Program} {q:TypeId×IntKind×TypeId} (h:zPS P q=true):q.2.1= .i64∧zJE P q.2.2=some (.bool false):=by
 unfold zPS at h
 split at h
 ·exact ⟨by assumption,by assumption⟩
 ·cases h
def trOp (P:Program):Op→Option AOp
 | .move x=>(trO x).map .mov
 | .assign x=>(trO x).map .mov
 | .pick c a b=>match trO c,trO a,trO b with
  | some c',some a',some b'=>some (.pick c' a' b')
  | _,_,_=>none
 | .binOp op t x y _=>match P.underlying t,trO x,trO y with
  | some (.array n e),some x',some y'=>(arrE P op t e).map fun q=> .eqA q.1 q.2 n x' y'
  | some (.struct fs),some x',some y'=>(strE P op t fs).map fun q=> .eqA q.1 q.2 fs.size x' y'
  | some u,some x',some y'=>some (.bin op (btOf u) x' y')
  | _,_,_=>none
 | .unOp op _ x=>(trO x).map (.un op)
 | .panic _=>some .halt
 | .convert s d x=>match P.underlying s,P.underlying d,trO x with
  | some (.int _),some (.int k),some x'=>some (.convI k x')
  | some (.int _),some (.float k),some x'=>some (.convIF k x')
  | some (.float _),some (.int k),some x'=>some (.convFI k x')
  | some (.slice e),some .string,some x'=>match P.underlying e with
   | some (.int .u8)=>some (.convS x')
   | _=>none
  | some (.slice _),some (.slice e),some x'=>match P.underlying e with
   | some (.int .u8)=>if s=d then some (.mark x') else none
   | _=>none
  | some .string,some (.slice e),some x'=>match P.underlying e with
   | some (.int .u8)=>some (.convB e x')
   | _=>none
  | _,_,_=>none
 | .nilCheck x=>(trO x).map .nilck
 | .makeInterface t x=>match P.underlying t,trO x with
  | some (.interface _),_=>none
  | some _,some x'=>some (.mkif t x')
  | _,_=>none
 | .makeFunc fn a b=>match trOs a.toList,trOs b.toList with
  | some a',some b'=>some (.mkfn fn a' b')
  | _,_=>none
 | .fieldAddr s x i=>match P.underlying s,trO x with
  | some (.struct fs),some x'=>match fs[i]? with
   | some f=>match P.info? f.type with
    | some j=>if j.size=0 then none else some (.fieldA f.offset x')
    | none=>none
   | none=>none
  | _,_=>none
 | .field s x i=>match P.underlying s,trO x with
  | some (.struct fs),some x'=>match fs[i]? with
   | some f=>match P.info? f.type,P.underlying f.type with
    | some j,some u=>some (.field (aggT u) f.offset j.size x')
    | _,_=>none
   | none=>none
  | _,_=>none
 | .indexAddr t x i=>match P.underlying t,trO x,trO i with
  | some (.slice e),some x',some i'=>(P.info? e).map fun j=> .idxA j.size x' i'
  | some (.array n e),some x',some i'=>(P.info? e).map fun j=> .idxAr j.size n x' i'
  | _,_,_=>none
 | .index t x i=>match P.underlying t,trO x,trO i with
  | some .string,some x',some i'=>some (.idxS x' i')
  | some (.array n e),some x',some i'=>match P.info? e,P.underlying e with
   | some j,some u=>some (.idxV (aggT u) j.size n x' i')
   | _,_=>none
  | _,_,_=>none
 | .load t x=>match P.underlying t,P.info? t,trO x with
  | some u,some j,some x'=>some (.load (aggT u) j.size x')
  | _,_,none=>match x with
   | .global _=>some .halt
   | _=>none
  | _,_,_=>none
 | .slice t x lo hi mx=>match P.underlying t,trO x,trOo lo,trOo hi,mx with
  | some (.slice e),some x',some lo',some hi',none=>(P.info? e).map fun j=> .sliceS j.size x' lo' hi' none
  | _,_,_,_,_=>none
 | .extract x j=>(trO x).map fun x'=> .extract x' j
 | .build t parts=>match P.underlying t,zIE P t,zJJ P t parts.toList with
  | some u,some z,some ps=>if aggT u&&zJX P t then some (.build z ps) else none
  | _,_,_=>none
 | .typeAssert x _ t ok=>match P.underlying t,trO x with
  | some (.interface _),_=>none
  | some _,some x'=>some (.tass x' t ok)
  | _,_=>none
 | .call c=>match c.callee with
  | .builtin .len=>match c.argTypes.toList,c.args.toList with
   | [t],[x]=>match P.underlying t,trO x with
    | some (.slice _),some x'=>some (.len x')
    | some .string,some x'=>some (.lenS x')
    | some (.map _ _),some x'=>some (.mlen x')
    | _,_=>none
   | _,_=>none
  | .builtin .cap=>match c.argTypes.toList,c.args.toList with
   | [t],[x]=>match P.underlying t,trO x with
    | some (.slice _),some x'=>some (.capN x')
    | _,_=>none
   | _,_=>none
  | .builtin .max=>match c.args.toList with
   | [x,y]=>match trO x,trO y with
    | some x',some y'=>some (.mnmx true x' y')
    | _,_=>none
   | _=>none
  | .builtin .min=>match c.args.toList with
   | [x,y]=>match trO x,trO y with
    | some x',some y'=>some (.mnmx false x' y')
    | _,_=>none
   | [x,y,z]=>match trO x,trO y,trO z with
    | some x',some y',some z'=>some (.mn3 x' y' z')
    | _,_,_=>none
   | _=>none
  | .builtin .append=>match c.argTypes.toList,c.args.toList with
   | [t,u],[x,y]=>match P.underlying t,P.underlying u,trO x,trO y with
    | some (.slice e),some (.slice _),some x',some y'=>match P.info? e,zJz P e with
     | some j,some _=>some (.app e j.size j.bytes x' y')
     | _,_=>none
    | some (.slice e),some (.int _),some x',some y'=>match P.info? e,zJz P e with
     | some j,some z=>some (.appZ e j.size j.bytes z x' y')
     | _,_=>none
    | _,_,_,_=>none
   | _,_=>none
  | .builtin .copy=>match c.argTypes.toList,c.args.toList with
   | [t,u],[x,y]=>match P.underlying t,trO x,trO y with
    | some (.slice e),some x',some y'=>(P.info? e).map fun j=> .copy j.size x' y'
    | _,_,_=>none
   | _,_=>none
  | .builtin _=>none
  | .value (.func f)=>(trOs c.args.toList).map (.call f)
  | .value x=>match trO x,trOs c.args.toList with
   | some x',some as=>some (.callv x' as)
   | _,_=>none
  | .invoke x m=>match trO x,trOs c.args.toList with
   | some x',some as=>some (.invk x' m as)
   | _,_=>none
 | .alloc e=>match P.info? e,zIE P e with
  | some j,some z=>some (.alloc e j.size z)
  | _,_=>none
 | .box e x=>(trO x).map (.box e)
 | .buildSlice t n parts=>match P.underlying t,trOs (parts.toList.map (·.2)) with
  | some (.slice e),some ps=>match P.info? e with
   | some j=>match zJz P e with
    | some _=>if parts.toList.map (·.1)=List.range n∧n*j.size≤1000 then some (.bslice e j.size ps) else none
    | none=>none
   | none=>none
  | _,_=>none
 | .makeSlice t l c=>match P.underlying t,trO l,trO c with
  | some (.slice e),some l',some c'=>match P.info? e,zJz P e with
   | some j,some z=>some (.mkS e j.size j.bytes z l' c')
   | _,_=>none
  | _,_,_=>none
 | .store t x y=>match P.info? t,trO x,trO y with
  | some j,some x',some y'=>some (.store j.size x' y')
  | _,_,_=>none
 | .makeMap t r=>match r,mapT P t with
  | none,some q=>some (.mkmap (zPS P q))
  | _,_=>none
 | .mapUpdate t m k x=>match mapT P t,trO m,trO k,trO x with
  | some q,some m',some k',some x'=>some (.insrt q.2.1 m' k' x')
  | _,_,_,_=>none
 | .insert t m k x=>match mapT P t,trO m,trO k,trO x with
  | some q,some m',some k',some x'=>some (.insrt q.2.1 m' k' x')
  | _,_,_,_=>none
 | .lookup t m k ok=>match mapT P t,trO m,trO k with
  | some q,some m',some k'=>if zPS P q=true then some (.lookB ok m' k') else match zJE P q.2.2 with
   | some z=>if zZV z=true then some (.lookD q.2.1 z ok m' k') else some (.look q.2.1 z ok m' k')
   | none=>none
  | _,_,_=>none
 | _=>none
section
variable {P:Program} {E:Env} {w:World} {ρ:Operand→Value} {f:Opd→Option PV}
def OpdR (E:Env) (w:World) (ρ:Operand→Value) (f:Opd→Option PV):Prop:=
 ∀x o p,trO x=some o→f o=some p→VR E w p (ρ x)
theorem zCZ (hO:OpdR E w ρ f):∀{xs:List Operand} {os:List Opd} {ps:List PV},trOs xs=some os→zA8 f os=some ps→VRs E w ps (xs.map ρ)
 | [],os,ps,h,hp=>by simp only [trOs,Option.some.injEq] at h;subst h;simp only [zA8,Option.some.injEq] at hp;subst hp;simp [VRs]
 | x::xs,os,ps,h,hp=>by
  simp only [trOs] at h
  split at h
  ·rename_i y ys h1 h2
   simp only [Option.some.injEq] at h;subst h
   simp only [zA8] at hp
   split at hp
   ·rename_i p ps' h3 h4
    simp only [Option.some.injEq] at hp;subst hp
    simp only [List.map_cons,VRs]
    exact ⟨_,_,rfl,hO _ _ _ h1 h3,zCZ hO h2 h4⟩
   ·cases hp
  ·cases h
theorem zEm (hO:OpdR E w ρ f) {x:Operand} {o:Opd} (h:trO x=some o) {k:IntKind} {n:Int} (hi:ix f o=some (k,n)):ρ x= .int k n:=by
 unfold ix asInt? at hi
 split at hi
 ·rename_i k' n' h1
  simp only [Option.some.injEq,Prod.mk.injEq] at hi;obtain ⟨rfl,rfl⟩:=hi
  have:=hO _ _ _ h h1
  simpa only [VR,DR] using this
 ·cases hi
theorem zLV {v:Value} {x:D} (h:dV v=some x) (pr:Nat→Prop) (w:World):DR pr w x v∧x.sz=1:=by
 unfold dV at h
 split at h<;>first | (cases h;simp [DR,D.sz];done) | cases h
theorem zKv:∀{vs:List Value} {xs:List D},dVs vs=some xs→∀(pr:Nat→Prop) (w:World),DRs pr w xs vs
 | [],xs,h,pr,w=>by simp only [dVs,Option.some.injEq] at h;subst h;simp [DRs]
 | v::vs,xs,h,pr,w=>by
  simp only [dVs] at h
  split at h
  ·rename_i y ys h1 h2
   simp only [Option.some.injEq] at h;subst h
   simp only [DRs]
   exact ⟨_,_,rfl,(zLV h1 pr w).1,zKv h2 pr w⟩
  ·cases h
theorem zNn:∀{vs:List Value} {xs:List D},dVs vs=some xs→OneC vs
 | [],xs,h=>by simp [OneC]
 | v::vs,xs,h=>by
  simp only [dVs] at h
  split at h
  ·rename_i y ys h1 h2
   have ih:=zNn h2
   intro c hc
   rcases List.mem_cons.1 hc with rfl | hc
   ·unfold dV at h1
    split at h1<;>first | rfl | cases h1
   ·exact ih c hc
  ·cases h
theorem zPE:∀{xs:List D} {vs:List Value},DRs E.prot w xs vs→VRs E w (xs.map .d) vs
 | [],vs,h=>by simpa [VRs,DRs] using h
 | x::xs,vs,h=>by
  simp only [DRs] at h
  obtain ⟨u,us,rfl,h1,h2⟩:=h
  simp only [List.map_cons,VRs]
  exact ⟨u,us,rfl,by simpa only [VR] using h1,zPE h2⟩
theorem zX7:∀{xs:List D} {vs:List Value},VRs E w (xs.map .d) vs→DRs E.prot w xs vs
 | [],vs,h=>by simpa [VRs,DRs] using h
 | x::xs,vs,h=>by
  simp only [List.map_cons,VRs] at h
  obtain ⟨u,us,rfl,h1,h2⟩:=h
  simp only [DRs]
  exact ⟨u,us,rfl,by simpa only [VR] using h1,zX7 h2⟩
end
end Go.Proofs.YtnmlihfpenjeiaaGreat.Abs
namespace Go.Proofs.YtnmlihfpenjeiaaGreat.Abs
open Go Go.RowKit
set_option linter.unusedVariables false
set_option linter.unusedSimpArgs false
section
variable {P:Program} {E:Env} {w:World} {ρ:Operand→Value} {f:Opd→Option PV} {bx:Tg→Option (List PV)}
def BxR (E:Env) (w:World) (bx:Tg→Option (List PV)):Prop:=
 ∀k cs,bx k=some cs→k.isM=false→∃b c el fr,E.box k=some b∧w.heap[b]? =some (.cells c el fr)∧Unfz c fr∧OneC c.toList∧VRs E w cs c.toList
def BxM (E:Env) (w:World) (bx:Tg→Option (List PV)):Prop:=
 ∀k l,bx k=some [.d (.mp l)]→k.isM=true→∃b es clock,E.box k=some b∧w.heap[b]? =some (.map es clock)∧MapR l es.toList
def BxV (E:Env) (w:World) (bx:Tg→Option (List PV)):Prop:=
 ∀k cs,bx k=some cs→k.isM=true→∃b es clock,E.box k=some b∧w.heap[b]? =some (.map es clock)∧(VRs E w cs (zCk es.toList)∨∃p,cs=[p])
def zIh (P:Program) (E:Env) (w:World) (s:Sem Next) (v:PV):Prop:=∃u,s.run P w= .ok (.value u) w∧VR E w v u
theorem zAF {s:Sem Value} {v:PV} {u:Value} (h:s.run P w= .ok u w) (hv:VR E w v u):zIh P E w (do pure (.value (←s))) v:=
 ⟨u,by simp [h],hv⟩
theorem zL8 {t e:TypeId} {j:TypeInfo} (hu:P.underlying t=some (.slice e)) (hi:P.info? e=some j) {b o len cap:Nat} {k:IntKind} {n:Int} (h0:0≤n) (h1:n<(len:Int)):
  (Instr.indexAt t (.slice (some ⟨b,o,none⟩) len cap) (.int k n)).run P w= .ok (.pointer (some ⟨b,o+n.toNat*j.size,none⟩)) w:=by
 simp [Instr.indexAt,asIntOf,run_underlying hu,zBd hi,h0,h1,Addr.add_mk]
theorem zKY {t e:TypeId} {j:TypeInfo} {m:Nat} (hu:P.underlying t=some (.array m e)) (hi:P.info? e=some j) {b o:Nat} {k:IntKind} {n:Int} (h0:0≤n) (h1:n<(m:Int)):
  (Instr.indexAt t (.pointer (some ⟨b,o,none⟩)) (.int k n)).run P w= .ok (.pointer (some ⟨b,o+n.toNat*j.size,none⟩)) w:=by
 simp [Instr.indexAt,asIntOf,run_underlying hu,zBd hi,h0,h1,Addr.add_mk,Instr.sureAddr]
theorem zVD {t e:TypeId} {j:TypeInfo} (hu:P.underlying t=some (.slice e)) (hi:P.info? e=some j) {x i:Opd} {vx vi:Value} {c:Prop} {v:PV}
  (hx:∀p,f x=some p→VR E w p vx) (hix:∀k n,ix f i=some (k,n)→vi= .int k n)
  (hr:rop (.idxA j.size x i) f bx=some (c,v)) (hc:c):zIh P E w (do pure (.value (←Instr.indexAt t vx vi))) v:=by
 simp only [rop] at hr
 split at hr
 ·rename_i t' sz' off es k n h1 h2
  split at hr
  ·rename_i hsz;subst hsz
   simp only [Option.some.injEq,Prod.mk.injEq] at hr;obtain ⟨rfl,rfl⟩:=hr
   obtain ⟨h3,h4⟩:=hc
   have hv:=hx _ h1
   rw [hix _ _ h2]
   simp only [VR] at hv
   have hlen:n.toNat<es.length:=by omega
   rcases hv with ⟨h5,_⟩ | ⟨b,o,cap,cc,el,fr,vs,g1,rfl,g3,g4,g5,g6,g7,g8,g9⟩
   ·subst h5;simp at hlen
   ·refine zAF (zL8 hu hi h3 h4) ?_
    obtain ⟨u,g10,g11,g12⟩:=zRM g7 g8 g9 hlen
    simp only [VR]
    have hm:o+(off+n.toNat)*j.size+j.size≤o+(off+cap)*j.size:=by
     have:=Nat.mul_le_mul_right j.size (show off+n.toNat+1≤off+cap by omega)
     rw [Nat.add_mul _ 1,Nat.one_mul] at this;omega
    have he:o+off*j.size+n.toNat*j.size=o+(off+n.toNat)*j.size:=by rw [Nat.add_mul];omega
    refine ⟨b,o,cc,el,fr,g1,by simp only [Option.getD_none,Nat.add_zero];rw [←he],g4,g5,by omega,fun x hx'=> ?_⟩
    simp only [Option.some.injEq] at hx';subst hx'
    exact ⟨u,g10,g11,by rw [←he];exact g12⟩
  ·cases hr
 ·rename_i es k n h1 h2
  simp only [Option.some.injEq,Prod.mk.injEq] at hr;obtain ⟨rfl,rfl⟩:=hr
  obtain ⟨h3,h4,h5⟩:=hc
  have hv:=hx _ h1
  rw [hix _ _ h2]
  simp only [VR,DR] at hv
  have hlen:n.toNat<es.length:=by omega
  rcases hv with ⟨h6,_⟩ | ⟨b,o,cap,sz,vs,rfl,g2,g3,g4,g5,g6⟩
  ·subst h6;simp at hlen
  ·refine zAF (zL8 hu hi h3 h4) ?_
   obtain ⟨u,g10,g11,g12⟩:=zRM g4 g5 g6 hlen
   have hsz:sz=j.size:=by rw [←g11,g10.size,h5]
   subst hsz
   simp only [VR,DR]
   exact ⟨b,_,u.cells.toList,rfl,g3,g10.one,g12,g10.cells⟩
 ·cases hr
theorem zTV {t e:TypeId} {j:TypeInfo} {m:Nat} (hu:P.underlying t=some (.array m e)) (hi:P.info? e=some j) {x i:Opd} {vx vi:Value} {c:Prop} {v:PV}
  (hx:∀p,f x=some p→VR E w p vx) (hix:∀k n,ix f i=some (k,n)→vi= .int k n)
  (hr:rop (.idxAr j.size m x i) f bx=some (c,v)) (hc:c):zIh P E w (do pure (.value (←Instr.indexAt t vx vi))) v:=by
 simp only [rop] at hr
 split at hr
 ·rename_i k' o' k n h1 h2
  split at hr
  ·cases hr
  rename_i hM
  simp only [Option.some.injEq,Prod.mk.injEq] at hr;obtain ⟨rfl,rfl⟩:=hr
  have hv:=hx _ h1
  rw [hix _ _ h2]
  simp only [VR] at hv
  obtain ⟨b,h3,rfl⟩:=hv
  rw [zFg (by simpa using hM)]
  refine zAF (zKY hu hi hc.1 hc.2) ?_
  simp only [VR]
  exact ⟨b,h3,(zFg (by simpa using hM)).symm⟩
 ·rename_i t' sz' j' g e' k n h1 h2
  simp only [Option.some.injEq,Prod.mk.injEq] at hr;obtain ⟨rfl,rfl⟩:=hr
  have hv:=hx _ h1
  rw [hix _ _ h2]
  simp only [VR] at hv
  obtain ⟨b,o,cc,el,fr,g1,rfl,g3⟩:=hv
  refine zAF (zKY hu hi hc.1 hc.2) ?_
  simp only [VR]
  exact ⟨b,o,cc,el,fr,g1,by simp only [Option.getD_some];rw [Nat.add_assoc],g3⟩
 ·rename_i cs g k n h1 h2
  simp only [Option.some.injEq,Prod.mk.injEq] at hr;obtain ⟨rfl,rfl⟩:=hr
  have hv:=hx _ h1
  rw [hix _ _ h2]
  simp only [VR,DR] at hv
  obtain ⟨b,o,vs,rfl,g3⟩:=hv
  refine zAF (zKY hu hi hc.1 hc.2) ?_
  simp only [VR,DR]
  exact ⟨b,o,vs,by rw [Nat.add_assoc],g3⟩
 ·cases hr
theorem zHD {α:Type} {l:List α} {i:Nat} (h:i<l.length):∃x,l[i]? =some x:=⟨l[i],List.getElem?_eq_getElem h⟩
theorem zPz {t:TypeId} {u:TypeDesc} {j:TypeInfo} (hu:P.underlying t=some u) (hi:P.info? t=some j) (hB:BxR E w bx) {x:Opd} {vx:Value} {c:Prop} {v:PV}
  (hx:∀p,f x=some p→VR E w p vx) (hr:rop (.load (aggT u) j.size x) f bx=some (c,v)) (hc:c):zIh P E w (do pure (.value (←Instr.loadAt t vx))) v:=by
 simp only [rop] at hr
 split at hr
 ·rename_i k o h1
  split at hr
  ·cases hr
  rename_i hM
  split at hr
  ·rename_i cs h2
   have hv:=hx _ h1
   simp only [VR] at hv
   obtain ⟨b,h3,rfl⟩:=hv
   rw [zFg (by simpa using hM)]
   obtain ⟨b',cc,el,fr,h4,h5,h6,h0,h7⟩:=hB _ _ h2 (by simpa using hM)
   rw [h3] at h4;cases h4
   have hcell:zAC w b 0 cc.toList:=by
    intro i c' hc'
    simp only [World.cell?,h5,Nat.zero_add]
    simpa using hc'
   have hlen:=h7.length
   split at hr
   ·rename_i hag
    simp only [Option.some.injEq,Prod.mk.injEq] at hr;obtain ⟨rfl,rfl⟩:=hr
    have h8:=(hcell.drop o).take j.size
    rw [Nat.zero_add] at h8
    refine zAF (by
     simp only [Instr.loadAt,Instr.sureAddr,Sem.run_bind,Sem.run_pure,Result.andThen_ok]
     exact zHU hu hi hag h8 (by rw [List.length_take,List.length_drop];omega)) ?_
    simp only [VR]
    exact ⟨_,rfl,h0.slice _ _,VRs.take _ (VRs.drop _ h7)⟩
   ·rename_i hag
    simp only [Option.some.injEq,Prod.mk.injEq] at hr;obtain ⟨rfl,rfl⟩:=hr
    obtain ⟨y,h8,h9⟩:=h7.at hc
    refine zAF (by
     simp only [Instr.loadAt,Instr.sureAddr,Sem.run_bind,Sem.run_pure,Result.andThen_ok]
     exact zF2 hu (by simpa using hag) (by have:=hcell _ _ h8;rwa [Nat.zero_add] at this)) h9
  ·cases hr
 ·rename_i t' sz' i g e h1
  have hv:=hx _ h1
  simp only [VR] at hv
  obtain ⟨b,o,cc,el,fr,g1,rfl,g3,g4,g5,g6⟩:=hv
  obtain ⟨u',g7,g8,g9⟩:=g6 e rfl
  have g10:=g7.cells
  have hlen:=g10.length
  split at hr
  ·rename_i hag
   simp only [Option.some.injEq,Prod.mk.injEq] at hr;obtain ⟨rfl,rfl⟩:=hr
   have h8:=(g9.drop (g.getD 0)).take j.size
   refine zAF (by
    simp only [Instr.loadAt,Instr.sureAddr,Sem.run_bind,Sem.run_pure,Result.andThen_ok]
    exact zHU hu hi hag h8 (by rw [List.length_take,List.length_drop];omega)) ?_
   simp only [VR,DR]
   exact ⟨_,rfl,g7.one.slice _ _,DRs.slice g10 _ _⟩
  ·rename_i hag
   simp only [Option.some.injEq,Prod.mk.injEq] at hr;obtain ⟨rfl,rfl⟩:=hr
   obtain ⟨y,h8,h9⟩:=g10.at hc
   refine zAF (by
    simp only [Instr.loadAt,Instr.sureAddr,Sem.run_bind,Sem.run_pure,Result.andThen_ok]
    exact zF2 hu (by simpa using hag) (g9 _ _ h8)) (by simpa only [VR] using h9)
 ·rename_i cs g h1
  have hv:=hx _ h1
  simp only [VR,DR] at hv
  obtain ⟨b,o,vs,rfl,g3,g0,g9,g10⟩:=hv
  have hlen:=g10.length
  split at hr
  ·rename_i hag
   simp only [Option.some.injEq,Prod.mk.injEq] at hr;obtain ⟨rfl,rfl⟩:=hr
   have h8:=(g9.drop g).take j.size
   refine zAF (by
    simp only [Instr.loadAt,Instr.sureAddr,Sem.run_bind,Sem.run_pure,Result.andThen_ok]
    exact zHU hu hi hag h8 (by rw [List.length_take,List.length_drop];omega)) ?_
   simp only [VR,DR]
   exact ⟨_,rfl,g0.slice _ _,DRs.slice g10 _ _⟩
  ·rename_i hag
   simp only [Option.some.injEq,Prod.mk.injEq] at hr;obtain ⟨rfl,rfl⟩:=hr
   obtain ⟨y,h8,h9⟩:=g10.at hc
   refine zAF (by
    simp only [Instr.loadAt,Instr.sureAddr,Sem.run_bind,Sem.run_pure,Result.andThen_ok]
    exact zF2 hu (by simpa using hag) (g9 _ _ h8)) (by simpa only [VR] using h9)
 ·cases hr
end
end Go.Proofs.YtnmlihfpenjeiaaGreat.Abs
namespace Go.Proofs.YtnmlihfpenjeiaaGreat.Abs
open Go Go.RowKit
set_option linter.unusedVariables false
set_option linter.unusedSimpArgs false
section
variable {P:Program} {E:Env} {w:World} {ρ:Operand→Value} {f:Opd→Option PV} {bx:Tg→Option (List PV)}
def BndR (v:Option Value) (bo:Option Int) (n:Nat):Prop:=
 match bo with
 | none=>v=none
 | some m=>∃k,v=some (.int k m)∧n=m.toNat
theorem zFU (hO:OpdR E w ρ f) {o:Option Operand} {o':Option Opd} (h:trOo o=some o') {d n:Nat} {bo:Option Int} (hb:zHb f o' d=some (bo,n)):
  BndR (o.map ρ) bo n∧(bo=none→n=d):=by
 cases o with
 | none=>
  simp only [trOo,Option.some.injEq] at h;subst h
  simp only [zHb,Option.some.injEq,Prod.mk.injEq] at hb;obtain ⟨rfl,rfl⟩:=hb
  exact ⟨rfl,fun _=>rfl⟩
 | some x=>
  simp only [trOo,Option.map_eq_some_iff] at h
  obtain ⟨y,h1,rfl⟩:=h
  simp only [zHb,Option.map_eq_some_iff,Prod.mk.injEq] at hb
  obtain ⟨⟨k,m⟩,h2,rfl,rfl⟩:=hb
  refine ⟨⟨k, ?_,rfl⟩,fun h=>by cases h⟩
  simp [zEm hO h1 h2]
theorem zGu {k:IntKind} {i:Int} {y:Nat} {code:BoundsCode} (h0:0≤i) (h1:i≤(y:Int)):(Instr.sliceBound (.int k i) y code).run P w= .ok i.toNat w:=by
 simp [Instr.sliceBound,asIntOf,h0,h1]
theorem zGV {t e:TypeId} {j:TypeInfo} (hu:P.underlying t=some (.slice e)) (hi:P.info? e=some j) {a:Option Addr} {len cap l h:Nat} {lo hi':Option Value} {bl bh:Option Int}
  (hl:BndR lo bl l) (hl':bl=none→l=0) (hh:BndR hi' bh h) (hh':bh=none→h=len) (h1:inB bl 0 h) (h2:inB bh 0 cap) (h3:len≤cap):
  (Instr.sliceAt t (.slice a len cap) lo hi' none).run P w= .ok (.slice (if cap=l then a else a.map (·.add (l*j.size))) (h-l) (cap-l)) w∧l≤h∧h≤cap:=by
 have hhc:h≤cap:=by
  cases bh with
  | none=>have:=hh' rfl;omega
  | some m=>obtain ⟨k,_,rfl⟩:=hh;simp only [inB] at h2;omega
 have hlh:l≤h:=by
  cases bl with
  | none=>have:=hl' rfl;omega
  | some m=>obtain ⟨k,_,rfl⟩:=hl;simp only [inB] at h1;omega
 refine ⟨?_,hlh,hhc⟩
 have e1:(Instr.sliceBounds true len cap lo hi' none).run P w= .ok (l,h,cap) w:=by
  cases bh with
  | none=>
   simp only [BndR] at hh;subst hh
   have:=hh' rfl;subst this
   cases bl with
   | none=>
    simp only [BndR] at hl;subst hl
    have:=hl' rfl;subst this
    simp [Instr.sliceBounds]
   | some m=>
    obtain ⟨k,rfl,rfl⟩:=hl
    simp only [inB] at h1
    simp [Instr.sliceBounds,zGu h1.1 h1.2]
  | some q=>
   obtain ⟨kh,rfl,rfl⟩:=hh
   simp only [inB] at h2
   cases bl with
   | none=>
    simp only [BndR] at hl;subst hl
    have:=hl' rfl;subst this
    simp [Instr.sliceBounds,zGu h2.1 h2.2]
   | some m=>
    obtain ⟨k,rfl,rfl⟩:=hl
    simp only [inB] at h1
    simp [Instr.sliceBounds,zGu h2.1 h2.2,zGu h1.1 h1.2]
 simp only [Instr.sliceAt,Sem.run_bind,run_underlying hu,Result.andThen_ok,Instr.slice,e1,zBd hi,Sem.run_pure]
theorem zFP {α:Type} {es:List α} {l h:Nat} (h1:h≤es.length):(cutL es l h).length=h-l:=by simp [cutL];omega
theorem zSa {b:Option Int} {lo hi hi':Nat} (h:inB b lo hi) (hh:hi≤hi'):inB b lo hi':=by
 cases b with
 | none=>simp only [inB] at h⊢;omega
 | some n=>simp only [inB] at h⊢;omega
theorem zS3 {t e:TypeId} {j:TypeInfo} (hu:P.underlying t=some (.slice e)) (hi:P.info? e=some j) (hO:OpdR E w ρ f) {x:Operand} {x':Opd} (hx:trO x=some x')
  {lo hh:Option Operand} {lo' hh':Option Opd} (hl:trOo lo=some lo') (hhh:trOo hh=some hh') {c:Prop} {v:PV}
  (hr:rop (.sliceS j.size x' lo' hh' none) f bx=some (c,v)) (hc:c):zIh P E w (do pure (.value (←Instr.sliceAt t (ρ x) (lo.map ρ) (hh.map ρ) none))) v:=by
 simp only [rop] at hr
 split at hr
 ·rename_i t' sz' off es h1
  split at hr
  ·rename_i bl l bh h g1 g2
   split at hr
   ·rename_i hsz;subst hsz
    simp only [Option.some.injEq,Prod.mk.injEq] at hr;obtain ⟨rfl,rfl⟩:=hr
    obtain ⟨c1,c2⟩:=hc
    obtain ⟨b1,b2⟩:=zFU hO hl g1
    obtain ⟨b3,b4⟩:=zFU hO hhh g2
    have hv:=hO _ _ _ hx h1
    simp only [VR] at hv
    rcases hv with ⟨h5,a,h6⟩ | ⟨b,o,cap,cc,el,fr,vs,k1,k2,k3,k4,k5,k6,k7,k8,k9⟩
    ·subst h5
     rw [h6]
     obtain ⟨r1,r2,r3⟩:=zGV (P:=P) (w:=w) (a:=a) (len:=0) (cap:=0) hu hi b1 b2 b3 (by simpa using b4) c2 (by simpa using c1) (Nat.le_refl _)
     refine zAF r1 ?_
     have:l=0:=by omega
     have:h=0:=by omega
     subst_vars
     simp only [VR]
     exact .inl ⟨by simp [cutL],_,rfl⟩
    ·rw [k2]
     obtain ⟨r1,r2,r3⟩:=zGV (P:=P) (w:=w) (a:=some ⟨b,o+off*j.size,none⟩) hu hi b1 b2 b3 b4 c2 (zSa c1 k3) k3
     have hle:h≤es.length:=by
      cases bh with
      | none=>have:=b4 rfl;omega
      | some m=>obtain ⟨k,_,rfl⟩:=b3;simp only [inB] at c1;omega
     refine zAF r1 ?_
     simp only [VR]
     by_cases hcl:cap=l
     ·refine .inl ⟨?_,_,by rw [if_pos hcl];congr 1<;>omega⟩
      exact List.eq_nil_of_length_eq_zero (by rw [zFP hle];omega)
     ·refine .inr ⟨b,o,cap-l,cc,el,fr,(vs.take h).drop l,k1, ?_, ?_,k4,k5, ?_, ?_, ?_, ?_⟩
      ·rw [if_neg hcl,zFP hle]
       simp only [Option.map_some,Addr.add_mk,Value.slice.injEq,Option.some.injEq,Addr.mk.injEq,true_and,and_true]
       rw [Nat.add_mul];omega
      ·rw [zFP hle];omega
      ·have:off+l+(cap-l)=off+cap:=by omega
       rw [this];exact k6
      ·exact fun u hu'=>k7 u (List.mem_of_mem_take (List.mem_of_mem_drop hu'))
      ·rw [zKj (sz:=j.size) (fun u hu'=>k7 u (List.mem_of_mem_take hu')),zIP k7]
       have:=(k8.take (h*j.size)).drop (l*j.size)
       rwa [Nat.add_assoc,←Nat.add_mul] at this
      ·exact DRs.drop _ (DRs.take _ k9)
   ·cases hr
  ·cases hr
 ·rename_i es h1
  split at hr
  ·rename_i bl l bh h g1 g2
   simp only [Option.some.injEq,Prod.mk.injEq] at hr;obtain ⟨rfl,rfl⟩:=hr
   obtain ⟨c1,c2,c3⟩:=hc
   obtain ⟨b1,b2⟩:=zFU hO hl g1
   obtain ⟨b3,b4⟩:=zFU hO hhh g2
   have hv:=hO _ _ _ hx h1
   simp only [VR,DR] at hv
   rcases hv with ⟨h5,a,c0,h6⟩ | ⟨b,o,cap,sz,vs,k2,k3,k4,k7,k8,k9⟩
   ·subst h5
    rw [h6]
    obtain ⟨r1,r2,r3⟩:=zGV (P:=P) (w:=w) (a:=a) (len:=0) (cap:=c0) hu hi b1 b2 b3 (by simpa using b4) c2 (zSa c1 (by simp)) (by omega)
    refine zAF r1 ?_
    have hh0:h=0:=by
     cases bh with
     | none=>have:=b4 rfl;simpa using this
     | some m=>obtain ⟨k,_,rfl⟩:=b3;simp only [inB,List.length_nil] at c1;omega
    subst hh0
    have hl0:l=0:=Nat.le_zero.1 r2
    subst hl0
    simp only [VR,DR]
    exact .inl ⟨by simp [cutL],_,_,rfl⟩
   ·rw [k2]
    obtain ⟨r1,r2,r3⟩:=zGV (P:=P) (w:=w) (a:=some ⟨b,o,none⟩) hu hi b1 b2 b3 b4 c2 (zSa c1 k3) k3
    have hle:h≤es.length:=by
     cases bh with
     | none=>have:=b4 rfl;omega
     | some m=>obtain ⟨k,_,rfl⟩:=b3;simp only [inB] at c1;omega
    refine zAF r1 ?_
    simp only [VR,DR]
    by_cases hcl:cap=l
    ·refine .inl ⟨?_,some ⟨b,o,none⟩,0,by rw [if_pos hcl];congr 1<;>omega⟩
     exact List.eq_nil_of_length_eq_zero (by rw [zFP hle];omega)
    ·by_cases hz:es=[]
     ·have hvs:vs=[]:=List.eq_nil_of_length_eq_zero (by rw [k9.length,hz];rfl)
      subst hz;subst hvs
      have hl0:h=0:=by simpa using hle
      have hl1:l=0:=by omega
      subst hl0;subst hl1
      refine .inr ⟨b,o,cap,sz,[], ?_,by simp [cutL],k4,by simp,by simpa [flat] using zAC.nil w b o,by simp [cutL,DRs]⟩
      rw [if_neg hcl];simp [cutL,Addr.add_mk]
     ·have hsz:sz=j.size:=by
       obtain ⟨e0,he0⟩:∃e0,es[0]? =some e0:=zHD (List.length_pos_iff.2 hz)
       obtain ⟨u0,hu0,hd0⟩:=k9.getElem? he0
       rw [←k7 u0 (List.mem_of_getElem? hu0),hd0.size,c3 e0 (List.mem_of_getElem? he0)]
      subst hsz
      refine .inr ⟨b,o+l*j.size,cap-l,j.size,(vs.take h).drop l, ?_, ?_,k4, ?_, ?_, ?_⟩
      ·rw [if_neg hcl,zFP hle]
       simp only [Option.map_some,Addr.add_mk]
      ·rw [zFP hle];omega
      ·exact fun u hu'=>k7 u (List.mem_of_mem_take (List.mem_of_mem_drop hu'))
      ·rw [zKj (sz:=j.size) (fun u hu'=>k7 u (List.mem_of_mem_take hu')),zIP k7]
       exact (k8.take (h*j.size)).drop (l*j.size)
      ·exact DRs.drop _ (DRs.take _ k9)
  ·cases hr
 ·rename_i h1
  split at hr
  ·rename_i bl l bh h g1 g2
   simp only [Option.some.injEq,Prod.mk.injEq] at hr;obtain ⟨rfl,rfl⟩:=hr
   obtain ⟨c1,c2⟩:=hc
   obtain ⟨b1,b2⟩:=zFU hO hl g1
   obtain ⟨b3,b4⟩:=zFU hO hhh g2
   have hv:=hO _ _ _ hx h1
   simp only [VR] at hv
   rw [hv]
   obtain ⟨r1,r2,r3⟩:=zGV (P:=P) (w:=w) (a:=none) (len:=0) (cap:=0) hu hi b1 b2 b3 b4 c2 c1 (Nat.le_refl _)
   refine zAF r1 ?_
   have:l=0:=by omega
   have:h=0:=by omega
   subst_vars
   simp [VR]
  ·cases hr
 ·cases hr
end
end Go.Proofs.YtnmlihfpenjeiaaGreat.Abs
namespace Go.Proofs.YtnmlihfpenjeiaaGreat.Abs
open Go Go.RowKit
set_option linter.unusedVariables false
set_option linter.unusedSimpArgs false
section
variable {P:Program} {E:Env} {w:World} {ρ:Operand→Value} {f:Opd→Option PV} {bx:Tg→Option (List PV)}
theorem zOF (cs:Array Value) (off:Nat):∀(l:List Value) (k:Nat),off+k+l.length≤cs.size→
  (l.zipIdx k).foldl (fun (cs:Array Value) (x:Value×Nat)=>cs.setIfInBounds (off+x.2) x.1) cs=(cs.toList.take (off+k)++l++cs.toList.drop (off+k+l.length)).toArray
 | [],k,h=>by simp
 | v::l,k,h=>by
  simp only [List.zipIdx_cons,List.foldl_cons]
  simp only [List.length_cons] at h
  rw [zOF (cs.setIfInBounds (off+k) v) off l (k+1) (by simp;omega)]
  congr 1
  apply List.ext_getElem?
  intro i
  simp only [Array.toList_setIfInBounds]
  have hk:off+k<cs.toList.length:=by simp;omega
  simp only [List.getElem?_append,List.getElem?_take,List.getElem?_drop,List.getElem?_set,List.length_append,List.length_take,List.length_set,List.length_cons]
  have hc:cs.toList.length=cs.size:=by simp
  by_cases h1:i<off+k
  ·have e1:i<min (off+(k+1)) cs.toList.length:=by omega
   have e2:i<min (off+k) cs.toList.length:=by omega
   have e3:i<off+(k+1):=by omega
   have e4:¬(off+k=i):=by omega
   simp [e1,e2,e3,e4,h1]
   rw [if_pos (by omega)];rw [if_pos (by omega)];rw [if_pos (by omega)];rw [if_pos (by omega)]
  ·by_cases h2:i=off+k
   ·subst h2
    have e1:off+k<min (off+(k+1)) cs.toList.length:=by omega
    have e2:¬off+k<min (off+k) cs.toList.length:=by omega
    have e3:off+k<off+(k+1):=by omega
    have e5:off+k-min (off+k) cs.toList.length=0:=by omega
    simp [e1,e2,e3,e5,hk]
    simp at hk
    grind
   ·have e1:¬i<min (off+(k+1)) cs.toList.length:=by omega
    have e2:¬i<min (off+k) cs.toList.length:=by omega
    have e4:¬(off+k=i):=by omega
    grind
inductive All2 {α β:Type} (R:α→β→Prop):List α→List β→Prop where
 | nil:All2 R [] []
 | cons {a:α} {b:β} {l:List α} {m:List β} (h:R a b) (t:All2 R l m):All2 R (a::l) (b::m)
theorem zNV {place:Nat→Option (Nat×Nat)}:∀(l:List (Nat×Value)) (q:List (Nat×Nat×PV)) (c:Array Value) (z z':List PV),
  (All2 (fun (a:Nat×Value) (b:Nat×Nat×PV)=>place a.1=some (b.1,b.2.1)∧VR E w b.2.2 a.2) l q)→VRs E w z c.toList→OneC c.toList→zP7 z q=some z'→
  ∃c',Instr.fill place c l=some c'∧OneC c'.toList∧VRs E w z' c'.toList
 | [],q,c,z,z',hf,hz,h0,h=>by
  cases hf
  simp only [zP7,Option.some.injEq] at h;subst h
  exact ⟨c,rfl,h0,hz⟩
 | (i,v)::l,q,c,z,z',hf,hz,h0,h=>by
  cases hf with
  | cons h1 h2=>
   rename_i b q'
   obtain ⟨off,sz,p⟩:=b
   obtain ⟨h3,h4⟩:=h1
   simp only [zP7] at h
   split at h
   ·rename_i hh
    obtain ⟨k1,k2,k3⟩:=hh
    have hcl:=(h4.cells k3).length
    have hzl:=hz.length
    simp only [Array.length_toList] at hcl hzl
    simp only at h3
    have hsz:v.cells.size=sz:=by omega
    simp only [Instr.fill,h3]
    rw [if_neg (by simp;omega)]
    rw [←Array.foldl_toList,Array.toList_zipIdx,zOF c off v.cells.toList 0 (by simp;omega)]
    refine zNV l q' _ _ z' h2 ?_ ?_ h
    ·simp only [Nat.add_zero,Array.length_toList]
     rw [hsz,←k1]
     refine VRs.append (VRs.append (VRs.take _ hz) (h4.cells k3)) ?_
     exact VRs.drop _ hz
    ·intro c' hc'
     simp only [Nat.add_zero,List.mem_append] at hc'
     rcases hc' with (hc' | hc') | hc'
     ·exact h0 c' (List.mem_of_mem_take hc')
     ·exact h4.one k3 c' hc'
     ·exact h0 c' (List.mem_of_mem_drop hc')
   ·cases h
theorem zL7 {α β:Type} {g:α→Sem β} {h:α→β}:∀(l:List α),(∀x∈l,(g x).run P w= .ok (h x) w)→(l.mapM g).run P w= .ok (l.map h) w
 | [],_=>by simp
 | x::l,hx=>by
  simp only [List.mapM_cons,Sem.run_bind,hx x (by simp),Result.andThen_ok,zL7 l fun y hy=>hx y (by simp [hy]),Sem.run_pure,List.map_cons]
theorem zQI {α β:Type} {g:α→Sem β} {h:α→β} (a:Array α) (hx:∀x∈a.toList,(g x).run P w= .ok (h x) w):(a.mapM g).run P w= .ok (a.map h) w:=by
 rw [Array.mapM_eq_mapM_toList]
 simp only [Sem.run_map,zL7 a.toList hx,Result.andThen_ok]
 rw [←Array.toList_map,Array.toArray_toList]
theorem zJ2 {t:TypeId} {z:List D} (h:zIE P t=some z):∃i v,P.info? t=some i∧i.zero=some v∧OneC v.cells.toList∧∀pr w,DRs pr w z v.cells.toList:=by
 unfold zIE at h
 split at h
 ·rename_i i h1
  split at h
  ·rename_i v h2
   exact ⟨i,v,h1,h2,zNn h,fun pr w=>zKv h pr w⟩
  ·cases h
 ·cases h
theorem zZK {v:Value} {x:D} (h:dV v=some x) (E:Env) (w:World):VR E w (zP x) v:=by
 unfold dV at h
 split at h<;>first | (cases h;done) | (simp only [Option.some.injEq] at h;subst h;simp only [zP,VR];done) | (simp only [Option.some.injEq] at h;subst h;simp only [zP,VR,DR])
theorem zWu {E:Env} {w:World}:∀{vs:List Value} {z:List D},dVs vs=some z→VRs E w (z.map zP) vs
 | [],z,h=>by simp only [dVs,Option.some.injEq] at h;subst h;simp [VRs]
 | v::vs,z,h=>by
  simp only [dVs] at h
  split at h
  ·rename_i y ys h1 h2
   simp only [Option.some.injEq] at h;subst h
   simp only [List.map_cons,VRs]
   exact ⟨v,vs,rfl,zZK h1 E w,zWu h2⟩
  ·cases h
theorem zQU {t:TypeId} {z:List D} (h:zIE P t=some z) {i:TypeInfo} {v:Value} (hi:P.info? t=some i) (hv:i.zero=some v) (E:Env) (w:World):VRs E w (z.map zP) v.cells.toList:=by
 unfold zIE at h
 rw [hi] at h
 simp only [hv] at h
 exact zWu h
theorem zN0 (hO:OpdR E w ρ f) {t:TypeId}:∀{l:List (Nat×Operand)} {q:List (Nat×Nat×Opd)} {ps:List PV},zJJ P t l=some q→zA8 f (q.map fun r=>r.2.2)=some ps→
  All2 (fun (a:Nat×Value) (b:Nat×Nat×PV)=>zH9 P t a.1=some (b.1,b.2.1)∧VR E w b.2.2 a.2) (l.map fun r=>(r.1,ρ r.2)) ((q.zip ps).map fun r=>(r.1.1,r.1.2.1,r.2))
 | [],q,ps,h,hp=>by simp only [zJJ,Option.some.injEq] at h;subst h;simp [All2.nil]
 | (i,x)::l,q,ps,h,hp=>by
  simp only [zJJ] at h
  split at h
  ·rename_i o s y ys h1 h2 h3
   simp only [Option.some.injEq] at h;subst h
   simp only [List.map_cons,zA8] at hp
   split at hp
   ·rename_i p ps' h4 h5
    simp only [Option.some.injEq] at hp;subst hp
    simp only [List.map_cons,List.zip_cons_cons]
    exact .cons ⟨h1,hO _ _ _ h2 h4⟩ (zN0 hO h3 h5)
   ·cases hp
  ·cases h
theorem zOQ {p q:Nat→Option (Nat×Nat)} (h:∀i,p i=q i) (c:Array Value) (l:List (Nat×Value)):Instr.fill p c l=Instr.fill q c l:=by
 rw [show p=q from funext h]
theorem zT3 {t:TypeId} {u:TypeDesc} (hu:P.underlying t=some u) (hg:aggT u=true) (hk:zJX P t=true) {z:List D} (hz:zIE P t=some z) (hO:OpdR E w ρ f)
  {l:Array (Nat×Operand)} {q:List (Nat×Nat×Opd)} (hq:zJJ P t l.toList=some q) {c:Prop} {v:PV}
  (hr:rop (.build z q) f bx=some (c,v)):zIh P E w (do pure (.value (←Instr.build t (l.map fun (i,x)=>(i,ρ x))))) v:=by
 simp only [rop] at hr
 split at hr
 ·rename_i ps h1
  simp only [Option.map_eq_some_iff,Prod.mk.injEq] at hr
  obtain ⟨cs,h2,rfl,rfl⟩:=hr
  obtain ⟨i,v,h3,h4,h50,h5⟩:=zJ2 hz
  have h6:=zN0 hO hq h1
  obtain ⟨c',h7,h70,h8⟩:=zNV (place:=zH9 P t) _ _ v.cells _ _ h6 (zQU hz h3 h4 E w) h50 h2
  refine zAF (u:= .agg c') ?_ (by simp only [VR];exact ⟨c',rfl,h70,h8⟩)
  have hl:(l.map fun x:Nat×Operand=>(x.1,ρ x.2)).toList=l.toList.map fun r=>(r.1,ρ r.2):=by simp
  cases u with
  | struct fs=>
   simp only [Instr.build,Sem.run_bind,zBJ h3 h4,Result.andThen_ok,run_underlying hu]
   rw [zQI (h:=fun f:Field=>(f.offset,((P.info? f.type).map (·.size)).getD 0)) fs (by
    intro x hx
    simp only [zJX,hu] at hk
    rw [Array.all_eq_true] at hk
    obtain ⟨n,hn,rfl⟩:=List.getElem_of_mem hx
    have:=hk n (by simpa using hn)
    obtain ⟨j,hj⟩:=Option.isSome_iff_exists.1 this
    simp only [Sem.run_bind]
    rw [show fs.toList[n]=fs[n]'(by simpa using hn) by simp]
    rw [zBd hj]
    simp [hj])]
   simp only [Result.andThen_ok]
   rw [hl,zOQ (q:=zH9 P t) (fun n=>by
    simp only [zH9,hu,Array.getElem?_map]
    cases hfn:fs[n]? with
    | none=>rfl
    | some g=>
     simp only [zJX,hu] at hk
     rw [Array.all_eq_true] at hk
     obtain ⟨hn,hg'⟩:=Array.getElem?_eq_some_iff.1 hfn
     have:=hk n hn
     rw [hg'] at this
     obtain ⟨j,hj⟩:=Option.isSome_iff_exists.1 this
     simp [hj]),h7]
   simp
  | array n e=>
   simp only [Instr.build,Sem.run_bind,zBJ h3 h4,Result.andThen_ok,run_underlying hu]
   cases he:P.info? e with
   | none=>simp [zJX,hu,he] at hk
   | some j=>
    simp only [zBd he,Result.andThen_ok]
    rw [hl,zOQ (q:=zH9 P t) (fun n=>by simp [zH9,hu,he]),h7]
    simp
  | _=>simp [aggT] at hg
 ·cases hr
end
end Go.Proofs.YtnmlihfpenjeiaaGreat.Abs
namespace Go.Proofs.YtnmlihfpenjeiaaGreat.Abs
open Go Go.RowKit
set_option linter.unusedVariables false
set_option linter.unusedSimpArgs false
section
variable {P:Program} {E:Env} {w:World} {ρ:Operand→Value} {f:Opd→Option PV} {bx:Tg→Option (List PV)}
theorem zMM {t:TypeId} {u:TypeDesc} {i:TypeInfo} (hu:P.underlying t=some u) (hi:P.info? t=some i) (hg:aggT u=true) (cs:Array Value) (off:Nat):
  (part t cs off).run P w= .ok (.agg (cs.extract off (off+i.size))) w:=by
 simp only [part,Sem.run_bind,zJw hu,Result.andThen_ok,hg,if_true,zBd hi,Sem.run_pure]
theorem zM5 {t:TypeId} {u:TypeDesc} (hu:P.underlying t=some u) (hg:aggT u=false) (cs:Array Value) (off:Nat) {v:Value} (h:cs[off]? =some v):
  (part t cs off).run P w= .ok v w:=by
 simp only [part,Sem.run_bind,zJw hu,Result.andThen_ok,hg,Bool.false_eq_true,if_false,h,Sem.run_pure]
theorem zGy (cs:Array Value) (o n:Nat):(cs.extract o (o+n)).toList=(cs.toList.drop o).take n:=by
 simp [Array.toList_extract,List.extract]
theorem zWf {t:TypeId} {u:TypeDesc} {i:TypeInfo} (hu:P.underlying t=some u) (hi:P.info? t=some i) {cs:List D} {arr:Array Value} (h0:OneC arr.toList) (h:DRs E.prot w cs arr.toList) {off:Nat}:
  (aggT u=true→∃y,(part t arr off).run P w= .ok y w∧VR E w (.d (.agg ((cs.drop off).take i.size))) y)∧
  (aggT u=false→off<cs.length→∃y,(part t arr off).run P w= .ok y w∧VR E w (.d (zFE cs off)) y):=by
 refine ⟨fun hg=>⟨_,zMM hu hi hg arr off, ?_⟩,fun hg ho=> ?_⟩
 ·simp only [VR,DR]
  exact ⟨_,rfl,by rw [zGy];exact h0.slice _ _,by rw [zGy];exact DRs.slice h _ _⟩
 ·obtain ⟨y,h1,h2⟩:=h.at ho
  exact ⟨y,zM5 hu hg arr off (by simpa using h1),by simpa only [VR] using h2⟩
theorem zWJ {t:TypeId} {u:TypeDesc} {i:TypeInfo} (hu:P.underlying t=some u) (hi:P.info? t=some i) {cs:List PV} {arr:Array Value} (h0:OneC arr.toList) (h:VRs E w cs arr.toList) {off:Nat}:
  (aggT u=true→∃y,(part t arr off).run P w= .ok y w∧VR E w (.agg ((cs.drop off).take i.size)) y)∧
  (aggT u=false→off<cs.length→∃y,(part t arr off).run P w= .ok y w∧VR E w (cs.getD off .unk) y):=by
 refine ⟨fun hg=>⟨_,zMM hu hi hg arr off, ?_⟩,fun hg ho=> ?_⟩
 ·simp only [VR]
  exact ⟨_,rfl,by rw [zGy];exact h0.slice _ _,by rw [zGy];exact VRs.take _ (VRs.drop _ h)⟩
 ·obtain ⟨y,h1,h2⟩:=h.at ho
  exact ⟨y,zM5 hu hg arr off (by simpa using h1),h2⟩
theorem zVe (e:D) (es:List D):zD6 (e::es)=⟨#[e.byte]++(zD6 es).data⟩:=by
 simp [zD6]
theorem zOW {pr:Nat→Prop}:∀(es:List D) (vs:List Value) (s:ByteArray),DRs pr w es vs→(∀e∈es,e.isU8)→
  (forIn vs s (fun c (s:ByteArray)=>(do
   let .int .u8 n:=c | stuck "bytesToString: byte expected"
   let s:=s.push (UInt8.ofNat n.toNat)
   pure (ForInStep.yield s):Sem (ForInStep ByteArray)))).run P w= .ok ⟨s.data++(zD6 es).data⟩ w
 | [],vs,s,h,_=>by simp only [DRs] at h;subst h;simp [zD6]
 | e::es,vs,s,h,h8=>by
  simp only [DRs] at h
  obtain ⟨u,us,rfl,h1,h2⟩:=h
  have he:=h8 e (by simp)
  cases e with
  | int k n=>
   cases k<;>simp only [D.isU8] at he
   simp only [DR] at h1;subst h1
   have ih:=zOW es us (s.push (UInt8.ofNat n.toNat)) h2 fun x hx=>h8 x (by simp [hx])
   simp only [List.forIn_cons,Sem.run_bind,Sem.run_pure,Result.andThen_ok]
   refine Eq.trans ih ?_
   rw [zVe]
   congr 2
   simp [ByteArray.push,D.byte]
  | _=>simp only [D.isU8] at he
theorem zT1 {s d e:TypeId} (hs:P.underlying s=some (.slice e)) (hd:P.underlying d=some .string) (he:P.underlying e=some (.int .u8)) {x:Opd} {vx:Value} {c:Prop} {v:PV}
  (hx:∀p,f x=some p→VR E w p vx) (hr:rop (.convS x) f bx=some (c,v)) (hc:c):zIh P E w (do pure (.value (←convert s d vx))) v:=by
 have conv:∀a n cp,(convert s d (.slice a n cp)).run P w=(Conv.bytesToString (.slice a n cp)).run P w:=by
  intro a n cp
  simp [convert,run_underlying hs,run_underlying hd,run_underlying he]
 have some_:∀(b o cap:Nat) (es:List D) (vs:List Value),zAC w b o (flat vs)→DRs E.prot w es vs→(∀e∈es,e.isU8)→
   (Conv.bytesToString (.slice (some ⟨b,o,none⟩) es.length cap)).run P w= .ok (.string (zD6 es)) w:=by
  intro b o cap es vs h2 h3 h4
  have hfl:∀(es:List D) (vs:List Value),DRs E.prot w es vs→(∀e∈es,e.isU8)→flat vs=vs:=by
   intro es
   induction es with
   | nil=>intro vs h _;simp only [DRs] at h;subst h;rfl
   | cons e es ih=>
    intro vs h k
    simp only [DRs] at h
    obtain ⟨u,us,rfl,g1,g2⟩:=h
    have he:=k e (by simp)
    have:=ih us g2 fun x hx=>k x (by simp [hx])
    cases e with
    | int kk n=>
     simp only [DR] at g1;subst g1
     simp only [flat,List.flatMap_cons] at this⊢
     rw [this];simp [Value.cells]
    | _=>simp only [D.isU8] at he
  rw [hfl es vs h3 h4] at h2
  have hl:vs.length=es.length:=h3.length
  simp only [Conv.bytesToString,Sem.run_bind]
  rw [←hl,zHi h2]
  simp only [Result.andThen_ok]
  have:=zOW (P:=P) es vs ByteArray.empty h3 h4
  rw [List.forIn_toArray]
  refine (congrArg (fun r=>Result.andThen r _) this).trans ?_
  have he:(⟨ByteArray.empty.data++(zD6 es).data⟩:ByteArray)=zD6 es:=by
   have:ByteArray.empty.data= #[]:=rfl
   rw [this];simp
  simp only [Result.andThen_ok,Sem.run_pure,he]
 simp only [rop] at hr
 split at hr
 ·rename_i es h1
  simp only [Option.some.injEq,Prod.mk.injEq] at hr;obtain ⟨rfl,rfl⟩:=hr
  have hv:=hx _ h1
  simp only [VR,DR] at hv
  rcases hv with ⟨rfl,a,c0,rfl⟩ | ⟨b,o,cap,sz,vs,rfl,h2,h3,h4,h5,h6⟩
  ·refine zAF (u:= .string (zD6 [])) ?_ (by simp [VR,DR])
   rw [conv]
   cases a<;>simp [Conv.bytesToString,loadCells,loadCellsFrom,zD6]<;>rfl
  ·refine zAF (u:= .string (zD6 es)) ?_ (by simp [VR,DR])
   rw [conv]
   exact some_ b o cap es vs h5 h6 hc
 ·rename_i t off es h1
  simp only [Option.some.injEq,Prod.mk.injEq] at hr;obtain ⟨rfl,rfl⟩:=hr
  have hv:=hx _ h1
  simp only [VR] at hv
  rcases hv with ⟨rfl,a,rfl⟩ | ⟨b,o,cap,cc,el,fr,vs,k1,rfl,k3,k4,k5,k6,k7,k8,k9⟩
  ·refine zAF (u:= .string (zD6 [])) ?_ (by simp [VR,DR])
   rw [conv]
   cases a<;>simp [Conv.bytesToString,loadCells,loadCellsFrom,zD6]<;>rfl
  ·refine zAF (u:= .string (zD6 es)) ?_ (by simp [VR,DR])
   rw [conv]
   exact some_ b _ cap es vs k8 k9 hc
 ·rename_i h1
  simp only [Option.some.injEq,Prod.mk.injEq] at hr;obtain ⟨rfl,rfl⟩:=hr
  have hv:=hx _ h1
  simp only [VR] at hv;subst hv
  refine zAF (u:= .string (zD6 [])) ?_ (by simp [VR,DR])
  rw [conv]
  simp [Conv.bytesToString,zD6];rfl
 ·cases hr
end
end Go.Proofs.YtnmlihfpenjeiaaGreat.Abs
namespace Go.Proofs.YtnmlihfpenjeiaaGreat.Abs
open Go Go.RowKit
set_option linter.unusedVariables false
set_option linter.unusedSimpArgs false
section
variable {P:Program} {E:Env} {w:World} {ρ:Operand→Value} {f:Opd→Option PV} {bx:Tg→Option (List PV)}
theorem D.ints_sound {pr:Nat→Prop} {k:IntKind}:∀{ds:List D} {xs:List Int} {vs:List Value},D.ints k ds=some xs→DRs pr w ds vs→vs=xs.map (Value.int k)
 | [],xs,vs,h,hv=>by
  simp only [D.ints,Option.some.injEq] at h;subst h
  simp only [DRs] at hv;subst hv;rfl
 | d::ds,xs,vs,h,hv=>by
  cases d<;>simp only [D.ints,reduceCtorEq] at h
  split at h
  ·rename_i k' n hk
   subst hk
   simp only [Option.map_eq_some_iff] at h
   obtain ⟨ys,h1,rfl⟩:=h
   simp only [DRs,DR] at hv
   obtain ⟨v,r,rfl,rfl,hr⟩:=hv
   rw [D.ints_sound h1 hr];rfl
  ·cases h
theorem PV.ints_sound {k:IntKind}:∀{ps:List PV} {xs:List Int} {vs:List Value},PV.ints k ps=some xs→VRs E w ps vs→vs=xs.map (Value.int k)
 | [],xs,vs,h,hv=>by
  simp only [PV.ints,Option.some.injEq] at h;subst h
  simp only [VRs] at hv;subst hv;rfl
 | p::ps,xs,vs,h,hv=>by
  unfold PV.ints at h
  split at h
  ·rename_i e;cases e
  ·rename_i k' n r e
   cases e
   split at h
   ·rename_i hk
    subst hk
    simp only [Option.map_eq_some_iff] at h
    obtain ⟨ys,h1,rfl⟩:=h
    simp only [VRs,VR,DR] at hv
    obtain ⟨v,r,rfl,rfl,hr⟩:=hv
    rw [PV.ints_sound h1 hr];rfl
   ·cases h
  ·cases h
theorem PV.intsA_sound {k:IntKind} {p:Option PV} {xs:List Int} {v:Value} (h:PV.intsA k p=some xs) (hv:∀q,p=some q→VR E w q v):v= .agg (xs.map (Value.int k)).toArray:=by
 unfold PV.intsA at h
 split at h
 ·have:=hv _ rfl
  simp only [VR] at this
  obtain ⟨arr,rfl,h2⟩:=this
  rw [←PV.ints_sound h h2.2]
 ·have:=hv _ rfl
  simp only [VR,DR] at this
  obtain ⟨arr,rfl,h2⟩:=this
  rw [←D.ints_sound h h2.2]
 ·cases h
theorem zTk {e:TypeId} {k:IntKind} (hu:P.underlying e=some (.int k)) (d:Nat) (xs ys:List Int) (hl:xs.length=ys.length):∀(m i:Nat),i+m=xs.length→
  (Op.eqItems (d+1) e 1 (xs.map (Value.int k)).toArray (ys.map (Value.int k)).toArray (List.range' i m)).run P w= .ok (xs.drop i==ys.drop i) w:=by
 have hp:P.plainKey e=true:=by simp [Program.plainKey,hu]
 intro m
 induction m with
 | zero=>
  intro i hi
  simp only [List.range'_zero,Op.eqItems,Sem.run_pure]
  rw [List.drop_of_length_le (by omega),List.drop_of_length_le (by omega)];rfl
 | succ m ih=>
  intro i hi
  have hix:i<xs.length:=by omega
  have hiy:i<ys.length:=by omega
  simp only [List.range'_succ,Op.eqItems,Nat.mul_one,Sem.run_bind]
  rw [run_part_plain w hp (v:= .int k xs[i]) (by simp [hix]),Result.andThen_ok,run_part_plain w hp (v:= .int k ys[i]) (by simp [hiy]),Result.andThen_ok,run_equalIn_int w d e k k _ _ hu,Result.andThen_ok]
  rw [List.drop_eq_getElem_cons hix,List.drop_eq_getElem_cons hiy]
  cases hb:xs[i]==ys[i] with
  | false=>simp only [List.cons_beq_cons,hb,Bool.false_and,Bool.not_false,if_true,Sem.run_pure]
  | true=>
   simp only [Bool.not_true,Bool.false_eq_true,if_false]
   rw [ih (i+1) (by omega)]
   rw [List.cons_beq_cons,hb,Bool.true_and]
theorem zU7 {t e:TypeId} {n:Nat} {k:IntKind} {i:TypeInfo} (hu:P.underlying t=some (.array n e)) (he:P.underlying e=some (.int k)) (hi:P.info? e=some i) (hs:i.size=1) {xs ys:List Int} (hx:xs.length=n) (hy:ys.length=n) (w:World):
  (Op.equalIn 10000 t (.agg (xs.map (Value.int k)).toArray) (.agg (ys.map (Value.int k)).toArray)).run P w= .ok (xs==ys) w:=by
 rw [run_equalIn_array w 9999 _ _ hu hi]
 have:P.cellsOf e=1:=by simp [Program.cellsOf,hi,hs]
 rw [this,List.range_eq_range',zTk he 9998 xs ys (by omega) n 0 (by omega)]
 rfl
theorem zMd {k:IntKind} (d:Nat) (xs ys:List Int):∀(fs:List Field) (i:Nat),intF P k i fs=true→i+fs.length=xs.length→xs.length=ys.length→
  (Op.eqFields (d+1) (xs.map (Value.int k)).toArray (ys.map (Value.int k)).toArray fs).run P w= .ok (xs.drop i==ys.drop i) w
 | [],i,hf,hi,hl=>by
  simp only [List.length_nil,Nat.add_zero] at hi
  rw [List.drop_of_length_le (by omega),List.drop_of_length_le (by omega)];rfl
 | f::fs,i,hf,hi,hl=>by
  simp only [intF,Bool.and_eq_true,decide_eq_true_eq] at hf
  obtain ⟨⟨⟨h1,h2⟩,h3⟩,h4⟩:=hf
  split at h3
  ·rename_i k' hu
   have hk:k'=k:=by simpa using h3
   subst hk
   have hp:P.plainKey f.type=true:=by simp [Program.plainKey,hu]
   simp only [List.length_cons] at hi
   have hix:i<xs.length:=by omega
   have hiy:i<ys.length:=by omega
   have ih:=zMd d xs ys fs (i+1) h4 (by omega) hl
   simp only [Op.eqFields,if_pos h1,Sem.run_bind,h2]
   rw [run_part_plain w hp (v:= .int k' xs[i]) (by simp [hix]),Result.andThen_ok,run_part_plain w hp (v:= .int k' ys[i]) (by simp [hiy]),Result.andThen_ok,run_equalIn_int w d f.type k' k' _ _ hu,Result.andThen_ok]
   rw [List.drop_eq_getElem_cons hix,List.drop_eq_getElem_cons hiy]
   cases hb:xs[i]==ys[i] with
   | false=>simp only [List.cons_beq_cons,hb,Bool.false_and,Bool.not_false,if_true,Sem.run_pure]
   | true=>
    simp only [Bool.not_true,Bool.false_eq_true,if_false]
    rw [ih,List.cons_beq_cons,hb,Bool.true_and]
  ·cases h3
theorem zUX {t:TypeId} {fs:Array Field} {k:IntKind} (hu:P.underlying t=some (.struct fs)) (hp:P.stoodInHeld t=false) (hf:intF P k 0 fs.toList=true) {xs ys:List Int} (hx:xs.length=fs.size) (hy:ys.length=fs.size) (w:World):
  (Op.equalIn 10000 t (.agg (xs.map (Value.int k)).toArray) (.agg (ys.map (Value.int k)).toArray)).run P w= .ok (xs==ys) w:=by
 have hF:P.fieldsOf t=fs:=by simp [Program.fieldsOf,hu]
 rw [run_equalIn_agg w 9999 t _ _ (by rw [hF];exact hu) hp,hF,zMd (w:=w) 9998 xs ys fs.toList 0 hf (by simp;omega) (by omega)]
 rfl
theorem VR.orUnk {o:Option PV} {v:Value} (h:∀p,o=some p→VR E w p v):VR E w (o.getD .unk) v:=by
 cases o with
 | none=>simp [VR]
 | some p=>exact h p rfl
theorem MapR.find:∀{l:List (Int×Bool)} {es:List MapEntry} (n:Int) (i:Nat),MapR l es→
  (Instr.findNow (.int .i64) (.int .i64 n) es i=some none∧getM l n=false∧hasM l n=false∧∀b x,x.key= .int .i64 n→x.val= .bool b→MapR (insM l n b) (es++[x]))∨
  ∃j e,Instr.findNow (.int .i64) (.int .i64 n) es i=some (some (i+j, .bool (getM l n)))∧hasM l n=true∧es[j]? =some e∧e.key= .int .i64 n∧∀b x,x.key= .int .i64 n→x.val= .bool b→MapR (insM l n b) (es.set j x)
 | [],es,n,i,h=>by
  simp only [MapR] at h;subst h
  refine .inl ⟨rfl,rfl,rfl,fun b x h1 h2=> ?_⟩
  simp only [insM,MapR,List.nil_append]
  exact ⟨x,[],rfl,h1,h2,rfl⟩
 | q::l,es,n,i,h=>by
  simp only [MapR] at h
  obtain ⟨y,r,rfl,h1,h2,h3⟩:=h
  by_cases hq:q.1=n
  ·refine .inr ⟨0,y, ?_,by simp [hasM,hq],rfl,by rw [h1,hq],fun b x g1 g2=> ?_⟩
   ·simp only [Instr.findNow,h1,h2,Instr.sameNow,if_true,getM,hq,beq_self_eq_true,Nat.add_zero]
   ·simp only [insM,hq,if_true,List.set_cons_zero,MapR]
    exact ⟨x,r,rfl,g1,g2,h3⟩
  ·have hne:(n==q.1)=false:=by simp;exact fun e=>hq e.symm
   have hf:Instr.findNow (.int .i64) (.int .i64 n) (y::r) i=Instr.findNow (.int .i64) (.int .i64 n) r (i+1):=by
    simp only [Instr.findNow,h1,Instr.sameNow,if_true,hne]
   rw [hf]
   have hg:getM (q::l) n=getM l n:=by simp [getM,hq]
   have hh:hasM (q::l) n=hasM l n:=by simp [hasM,hq]
   have hi:∀b,insM (q::l) n b=q::insM l n b:=fun b=>by simp [insM,hq]
   rw [hg,hh]
   rcases MapR.find n (i+1) h3 with ⟨f1,f2,f3,f4⟩ | ⟨j,e,f1,f2,f3,f4,f5⟩
   ·refine .inl ⟨f1,f2,f3,fun b x g1 g2=> ?_⟩
    rw [hi,List.cons_append,MapR]
    exact ⟨y,_,rfl,h1,h2,f4 b x g1 g2⟩
   ·refine .inr ⟨j+1,e,by rw [f1];congr 3;omega,f2,by simpa using f3,f4,fun b x g1 g2=> ?_⟩
    rw [hi,List.set_cons_succ,MapR]
    exact ⟨y,_,rfl,h1,h2,f5 b x g1 g2⟩
theorem zON:∀{ps:List PV} {vs:List Value} {xs:List D},dsOf ps=some xs→VRs E w ps vs→DRs E.prot w xs vs
 | [],vs,xs,h,hv=>by
  simp only [dsOf,Option.some.injEq] at h;subst h
  simp only [VRs] at hv;subst hv;simp only [DRs]
 | p::ps,vs,xs,h,hv=>by
  cases p with
  | d x=>
   simp only [dsOf,Option.map_eq_some_iff] at h
   obtain ⟨ys,h1,rfl⟩:=h
   simp only [VRs] at hv
   obtain ⟨u,us,rfl,h2,h3⟩:=hv
   simp only [VR] at h2
   simp only [DRs]
   exact ⟨u,us,rfl,h2,zON h1 h3⟩
  | _=>simp [dsOf] at h
theorem zT2 {p:PV} {v:Value} {x:D} (h:zPs p=some x) (hv:VR E w p v):DR E.prot w x v:=by
 cases p with
 | d y=>
  simp only [zPs,Option.some.injEq] at h;subst h
  simpa only [VR] using hv
 | agg cs=>
  simp only [zPs,Option.map_eq_some_iff] at h
  obtain ⟨ys,h1,rfl⟩:=h
  simp only [VR,DR] at hv⊢
  obtain ⟨arr,h2,h0,h3⟩:=hv
  exact ⟨arr,h2,h0,zON h1 h3⟩
 | _=>simp [zPs] at h
theorem zNU {kk:IntKind} {n:Int} {z:D}:∀{l:List MapEntry} {cs:List PV} {ps:List (Int×D)} {i:Nat},VRs E w cs (zCk l)→zLc kk cs=some ps→
  (Instr.findNow (.int kk) (.int kk n) l i=some none∧lookD n ps z=z∧hasK n (ps.map Prod.fst)=false)∨
  ∃j v,Instr.findNow (.int kk) (.int kk n) l i=some (some (j,v))∧DR E.prot w (lookD n ps z) v∧hasK n (ps.map Prod.fst)=true
 | [],cs,ps,i,h,hk=>by
  simp only [zCk,List.flatMap_nil] at h
  cases cs with
  | nil=>
   simp only [zLc,Option.some.injEq] at hk;subst hk
   exact .inl ⟨rfl,rfl,rfl⟩
  | cons p r=>simp [VRs] at h
 | e::l,cs,ps,i,h,hk=>by
  match cs,h,hk with
  | [],h,hk=>simp [VRs,zCk] at h
  | [p],h,hk=>simp [VRs,zCk] at h
  | p::q::r,h,hk=>
   have hm:zCk (e::l)=e.key::e.val::zCk l:=rfl
   rw [hm] at h
   simp only [VRs] at h
   obtain ⟨u,us,h1,h2,u2,us2,h3,h4,h5⟩:=h
   simp only [List.cons.injEq] at h1
   obtain ⟨rfl,rfl⟩:=h1
   simp only [List.cons.injEq] at h3
   obtain ⟨rfl,rfl⟩:=h3
   unfold zLc at hk
   split at hk
   ·rename_i he;cases he
   ·rename_i k' c p' r' he
    simp only [List.cons.injEq] at he
    obtain ⟨rfl,rfl,rfl⟩:=he
    split at hk
    ·rename_i hkk;subst hkk
     split at hk
     ·rename_i x qs g1 g2
      simp only [Option.some.injEq] at hk;subst hk
      simp only [VR,DR] at h2
      by_cases hc:n=c
      ·refine .inr ⟨i,e.val, ?_, ?_, ?_⟩
       ·simp only [Instr.findNow,h2,Instr.sameNow,if_true,hc,beq_self_eq_true]
       ·simp only [lookD,if_pos hc];exact zT2 g1 h4
       ·simp only [List.map_cons,hasK,if_pos hc]
      ·have hne:(n==c)=false:=by simpa using hc
       simp only [Instr.findNow,h2,Instr.sameNow,if_true,hne,lookD,if_neg hc,List.map_cons,hasK]
       exact zNU h5 g2
     ·cases hk
    ·cases hk
   ·cases hk
theorem zWH {t:TypeId} {z:D} (h:zJE P t=some z):∃v,(zeroValue t).run P w= .ok v w∧DR E.prot w z v:=by
 unfold zJE at h
 split at h
 ·rename_i i h1
  split at h
  ·rename_i cs h2
   simp only [Option.map_eq_some_iff] at h
   obtain ⟨ys,h3,rfl⟩:=h
   refine ⟨_,zBJ h1 h2 w, ?_⟩
   simp only [DR]
   exact ⟨cs,rfl,zNn h3,zKv h3 _ _⟩
  ·rename_i v hn h2
   exact ⟨v,zBJ h1 h2 w,(zLV h _ _).1⟩
  ·cases h
 ·cases h
theorem MapR.len:∀{l:List (Int×Bool)} {es:List MapEntry},MapR l es→es.length=l.length
 | [],es,h=>by simp only [MapR] at h;subst h;rfl
 | q::l,es,h=>by
  simp only [MapR] at h
  obtain ⟨y,r,rfl,_,_,h3⟩:=h
  simp [MapR.len h3]
theorem zVJ {t:TypeId} (h:zJE P t=some (.bool false)):(zeroValue t).run P w= .ok (.bool false) w:=by
 unfold zJE at h
 split at h
 ·rename_i i h1
  split at h
  ·rename_i cs h2
   simp only [Option.map_eq_some_iff] at h
   obtain ⟨ys,_,h3⟩:=h;cases h3
  ·rename_i v hn h2
   have:=(zLV h (fun _=>True) w).1
   simp only [DR] at this
   subst this
   exact zBJ h1 h2 w
  ·cases h
 ·cases h
set_option maxHeartbeats 1000000 in
theorem zMI (hO:OpdR E w ρ f) (hB:BxR E w bx) (hMp:BxM E w bx) (hMv:BxV E w bx) {o:Oper} {ao:AOp} (ht:trOp P o.op=some ao) {c:Prop} {v:PV} (hr:rop ao f bx=some (c,v)) (hc:c):
  zIh P E w (execOp ρ o) v:=by
 obtain ⟨dst,op,type,pos,after,guard⟩:=o
 simp only at ht
 cases op with
 | move x=>
  simp only [trOp,Option.map_eq_some_iff] at ht
  obtain ⟨y,h1,rfl⟩:=ht
  simp only [rop,Option.some.injEq,Prod.mk.injEq] at hr;obtain ⟨rfl,rfl⟩:=hr
  exact ⟨ρ x,by simp [execOp],VR.orUnk fun p hp=>hO _ _ _ h1 hp⟩
 | assign x=>
  simp only [trOp,Option.map_eq_some_iff] at ht
  obtain ⟨y,h1,rfl⟩:=ht
  simp only [rop,Option.some.injEq,Prod.mk.injEq] at hr;obtain ⟨rfl,rfl⟩:=hr
  exact ⟨ρ x,by simp [execOp],VR.orUnk fun p hp=>hO _ _ _ h1 hp⟩
 | pick cc a b=>
  simp only [trOp] at ht
  split at ht
  ·rename_i c' a' b' h1 h2 h3
   simp only [Option.some.injEq] at ht;subst ht
   simp only [rop] at hr
   split at hr
   ·rename_i t h4
    simp only [Option.some.injEq,Prod.mk.injEq] at hr;obtain ⟨rfl,rfl⟩:=hr
    have:=hO _ _ _ h1 h4
    simp only [VR,DR] at this
    refine ⟨if t then ρ a else ρ b,by simp [execOp,this,asBool], ?_⟩
    cases t
    ·exact VR.orUnk fun p hp=>hO _ _ _ h3 hp
    ·exact VR.orUnk fun p hp=>hO _ _ _ h2 hp
   ·cases hr
  ·cases ht
 | binOp op t x y yt=>
  simp only [trOp] at ht
  split at ht
  ·rename_i n e x' y' h1 h2 h3
   simp only [Option.map_eq_some_iff] at ht
   obtain ⟨⟨neg,k⟩,h4,rfl⟩:=ht
   simp only [rop] at hr
   split at hr
   ·rename_i xs ys h5 h6
    split at hr
    ·rename_i h7
     simp only [Option.some.injEq,Prod.mk.injEq] at hr;obtain ⟨rfl,rfl⟩:=hr
     have e1:=PV.intsA_sound h5 fun q hq=>hO _ _ _ h2 hq
     have e2:=PV.intsA_sound h6 fun q hq=>hO _ _ _ h3 hq
     unfold arrE at h4
     split at h4<;>(try (cases h4;done))
     all_goals
      split at h4
      ·rename_i k' hk hc
       simp only [Option.some.injEq,Prod.mk.injEq] at h4;obtain ⟨rfl,rfl⟩:=h4
       obtain ⟨hg,hs,hsz⟩:=hc
       obtain ⟨j,hj⟩:=Option.isSome_iff_exists.1 hs
       simp only [hj,Option.map_some,Option.some.injEq] at hsz
       refine ⟨_, ?_,show VR E w _ _ by simp only [VR,DR];rfl⟩
       simp only [execOp,e1,e2,Sem.run_bind,run_eqGuard_agg w _ t x y _ _ hg,Result.andThen_ok]
       first
        | (rw [run_eql_struct w t,zU7 h1 hk hj hsz h7.1 h7.2];simp)
        | (rw [run_neq_struct w t,zU7 h1 hk hj hsz h7.1 h7.2];simp)
      ·cases h4
    ·cases hr
   ·cases hr
  ·rename_i fs x' y' h1 h2 h3
   simp only [Option.map_eq_some_iff] at ht
   obtain ⟨⟨neg,k⟩,h4,rfl⟩:=ht
   simp only [rop] at hr
   split at hr
   ·rename_i xs ys h5 h6
    split at hr
    ·rename_i h7
     simp only [Option.some.injEq,Prod.mk.injEq] at hr;obtain ⟨rfl,rfl⟩:=hr
     have e1:=PV.intsA_sound h5 fun q hq=>hO _ _ _ h2 hq
     have e2:=PV.intsA_sound h6 fun q hq=>hO _ _ _ h3 hq
     unfold strE at h4
     split at h4<;>(try (cases h4;done))
     all_goals
      split at h4
      ·rename_i hc
       simp only [Option.some.injEq,Prod.mk.injEq] at h4;obtain ⟨rfl,rfl⟩:=h4
       obtain ⟨hg,hs,hsz⟩:=hc
       refine ⟨_, ?_,show VR E w _ _ by simp only [VR,DR];rfl⟩
       simp only [execOp,e1,e2,Sem.run_bind,run_eqGuard_agg w _ t x y _ _ hg,Result.andThen_ok]
       first
        | (rw [run_eql_struct w t,zUX h1 hs hsz h7.1 h7.2];simp)
        | (rw [run_neq_struct w t,zUX h1 hs hsz h7.1 h7.2];simp)
      ·cases h4
    ·cases hr
   ·cases hr
  ·rename_i u x' y' hna hnb h1 h2 h3
   simp only [Option.some.injEq] at ht;subst ht
   simp only [rop] at hr
   split at hr
   ·rename_i a b h4 h5
    obtain ⟨z,h6,h7⟩:=zSK (x:=x) (y:=y) h1 hr hc (hO _ _ _ h2 h4) (hO _ _ _ h3 h5)
    exact zAF h6 h7
   ·cases hr
  ·cases ht
 | unOp op t x=>
  simp only [trOp,Option.map_eq_some_iff] at ht
  obtain ⟨y,h1,rfl⟩:=ht
  simp only [rop] at hr
  split at hr
  ·rename_i a h2
   obtain ⟨z,h6,h7⟩:=zT5 (P:=P) hr (hO _ _ _ h1 h2)
   exact zAF h6 h7
  ·cases hr
 | convert s d x=>
  simp only [trOp] at ht
  split at ht
  ·rename_i k0 k x' h1 h2 h3
   simp only [Option.some.injEq] at ht;subst ht
   simp only [rop] at hr
   split at hr
   ·rename_i k' n h4
    simp only [Option.some.injEq,Prod.mk.injEq] at hr;obtain ⟨rfl,rfl⟩:=hr
    have:=hO _ _ _ h3 h4
    simp only [VR,DR] at this
    refine zAF (u:= .int k (k.wrap n)) ?_ (by simp [VR,DR])
    rw [this]
    simp [convert,run_underlying h1,run_underlying h2,Conv.intToInt]
   ·cases hr
  ·rename_i k0 k x' h1 h2 h3
   simp only [Option.some.injEq] at ht;subst ht
   simp only [rop] at hr
   split at hr
   ·rename_i k' n h4
    simp only [Option.some.injEq,Prod.mk.injEq] at hr;obtain ⟨rfl,rfl⟩:=hr
    have:=hO _ _ _ h3 h4
    simp only [VR,DR] at this
    refine zAF (u:= .float k (floatOfInt k n)) ?_ (by simp [VR,DR])
    rw [this]
    simp [run_convert_int_float w s d k' k n (by rw [h1];rfl) h2]
   ·cases hr
  ·rename_i k0 k x' h1 h2 h3
   simp only [Option.some.injEq] at ht;subst ht
   simp only [rop] at hr
   split at hr
   ·rename_i s' b h4
    simp only [Option.some.injEq,Prod.mk.injEq] at hr;obtain ⟨rfl,rfl⟩:=hr
    have:=hO _ _ _ h3 h4
    simp only [VR,DR] at this
    obtain ⟨m,hm⟩:=Option.isSome_iff_exists.1 hc
    refine zAF (u:= .int k m) ?_ (by simp [VR,DR,hm])
    rw [this]
    simp [run_convert_float_int w s d s' k b m (by rw [h1];rfl) h2 hm]
   ·cases hr
  ·rename_i e x' h1 h2 h3
   split at ht
   ·rename_i h4
    simp only [Option.some.injEq] at ht;subst ht
    exact zT1 h1 h2 h4 (fun p hp=>hO _ _ _ h3 hp) hr hc
   ·cases ht
  ·rename_i e0 e x' h1 h2 h3
   split at ht
   ·split at ht
    ·simp only [Option.some.injEq] at ht;subst ht;cases hr
    ·cases ht
   ·cases ht
  ·rename_i e x' h1 h2 h3
   split at ht
   ·simp only [Option.some.injEq] at ht;subst ht;cases hr
   ·cases ht
  ·cases ht
 | nilCheck x=>
  simp only [trOp,Option.map_eq_some_iff] at ht
  obtain ⟨y,h1,rfl⟩:=ht
  simp only [rop] at hr
  split at hr
  ·rename_i k oo h2
   split at hr
   ·cases hr
   rename_i hM
   simp only [Option.some.injEq,Prod.mk.injEq] at hr;obtain ⟨rfl,rfl⟩:=hr
   have h3:=hO _ _ _ h1 h2
   have h4:=h3
   simp only [VR] at h3
   obtain ⟨b,_,h5⟩:=h3
   rw [zFg (by simpa using hM)] at h5
   exact ⟨ρ x,by simp [execOp,h5],h4⟩
  ·rename_i t sz i g e h2
   simp only [Option.some.injEq,Prod.mk.injEq] at hr;obtain ⟨rfl,rfl⟩:=hr
   have h3:=hO _ _ _ h1 h2
   have h4:=h3
   simp only [VR] at h3
   obtain ⟨b,o,cc,el,fr,_,h5,_⟩:=h3
   exact ⟨ρ x,by simp [execOp,h5],h4⟩
  ·rename_i cs g h2
   simp only [Option.some.injEq,Prod.mk.injEq] at hr;obtain ⟨rfl,rfl⟩:=hr
   have h3:=hO _ _ _ h1 h2
   have h4:=h3
   simp only [VR,DR] at h3
   obtain ⟨b,o,vs,h5,_⟩:=h3
   exact ⟨ρ x,by simp [execOp,h5],h4⟩
  ·cases hr
 | makeInterface t x=>
  simp only [trOp] at ht
  split at ht
  ·cases ht
  ·rename_i u x' hne h1 h2
   simp only [Option.some.injEq] at ht;subst ht
   have run:(Instr.makeInterface t (ρ x)).run P w= .ok (.iface t (ρ x)) w:=by
    simp only [Instr.makeInterface,Sem.run_bind,run_underlying h1,Result.andThen_ok]
    cases u<;>first | rfl | (exfalso;exact hne _ _ h1 h2)
   simp only [rop] at hr
   split at hr
   ·rename_i y h3
    simp only [Option.some.injEq,Prod.mk.injEq] at hr;obtain ⟨rfl,rfl⟩:=hr
    have:=hO _ _ _ h2 h3
    refine zAF run ?_
    simp only [VR,DR] at this⊢
    exact ⟨_,rfl,this⟩
   ·rename_i p hp h3
    simp only [Option.some.injEq,Prod.mk.injEq] at hr;obtain ⟨rfl,rfl⟩:=hr
    have:=hO _ _ _ h2 h3
    refine zAF run ?_
    simp only [VR]
    exact ⟨_,rfl,this⟩
   ·cases hr
  ·cases ht
 | makeFunc fn a b=>
  simp only [trOp] at ht
  split at ht
  ·rename_i a' b' h1 h2
   simp only [Option.some.injEq] at ht;subst ht
   have hb:∀ps,zA8 f b'=some ps→VRs E w ps (b.map ρ).toList:=fun ps hp=>by simpa using zCZ hO h2 hp
   have ha:∀ps,zA8 f a'=some ps→VRs E w ps (a.map ρ).toList:=fun ps hp=>by simpa using zCZ hO h1 hp
   have run:(Instr.makeFunc fn (a.map ρ) (b.map ρ)).run P w= .ok (.func fn (a.map ρ) (b.map ρ)) w:=rfl
   simp only [rop] at hr
   split at hr
   ·rename_i h3 h4
    simp only [Option.some.injEq,Prod.mk.injEq] at hr;obtain ⟨rfl,rfl⟩:=hr
    refine zAF run ?_
    have e1:=ha _ h3
    have e2:=hb _ h4
    simp only [VRs] at e1 e2
    simp only [VR,DR,DRs]
    exact ⟨_,_,rfl,e1,e2⟩
   ·rename_i pa pb hne h3 h4
    simp only [Option.some.injEq,Prod.mk.injEq] at hr;obtain ⟨rfl,rfl⟩:=hr
    refine zAF run ?_
    simp only [VR]
    exact ⟨_,_,rfl,ha _ h3,hb _ h4⟩
   ·cases hr
  ·cases ht
 | fieldAddr s x i=>
  simp only [trOp] at ht
  split at ht
  ·rename_i fs x' h1 h2
   split at ht
   ·rename_i fd h3
    split at ht
    ·rename_i j h4
     split at ht
     ·cases ht
     ·rename_i hz
      simp only [Option.some.injEq] at ht;subst ht
      have run:∀b o,(Instr.fieldAt s (.pointer (some ⟨b,o,none⟩)) i).run P w= .ok (.pointer (some ⟨b,o+fd.offset,none⟩)) w:=by
       intro b o
       simp [Instr.fieldAt,run_underlying h1,h3,Instr.sureAddr,fieldPlace,zBd h4,hz,Addr.add_mk]
      simp only [rop] at hr
      split at hr
      ·rename_i k oo h5
       split at hr
       ·cases hr
       rename_i hM
       simp only [Option.some.injEq,Prod.mk.injEq] at hr;obtain ⟨rfl,rfl⟩:=hr
       have h6:=hO _ _ _ h2 h5
       simp only [VR] at h6
       obtain ⟨b,h7,h8⟩:=h6
       rw [zFg (by simpa using hM)] at h8
       refine zAF (by rw [h8];exact run b oo) ?_
       simp only [VR];exact ⟨b,h7,(zFg (by simpa using hM)).symm⟩
      ·rename_i t sz ii g e h5
       simp only [Option.some.injEq,Prod.mk.injEq] at hr;obtain ⟨rfl,rfl⟩:=hr
       have h6:=hO _ _ _ h2 h5
       simp only [VR] at h6
       obtain ⟨b,o,cc,el,fr,g1,h8,g3⟩:=h6
       refine zAF (by rw [h8];exact run b _) ?_
       simp only [VR];exact ⟨b,o,cc,el,fr,g1,by simp only [Option.getD_some];rw [Nat.add_assoc],g3⟩
      ·rename_i cs g h5
       simp only [Option.some.injEq,Prod.mk.injEq] at hr;obtain ⟨rfl,rfl⟩:=hr
       have h6:=hO _ _ _ h2 h5
       simp only [VR,DR] at h6
       obtain ⟨b,o,vs,h8,g3⟩:=h6
       refine zAF (by rw [h8];exact run b _) ?_
       simp only [VR,DR];exact ⟨b,o,vs,by rw [Nat.add_assoc],g3⟩
      ·cases hr
    ·cases ht
   ·cases ht
  ·cases ht
 | field s x i=>
  simp only [trOp] at ht
  split at ht
  ·rename_i fs x' h1 h2
   split at ht
   ·rename_i fd h3
    split at ht
    ·rename_i j u h4 h5
     simp only [Option.some.injEq] at ht;subst ht
     have run:∀arr,(Instr.field s (.agg arr) i).run P w=(part fd.type arr fd.offset).run P w:=by
      intro arr
      simp [Instr.field,run_underlying h1,h3,asAgg]
     simp only [rop] at hr
     split at hr
     ·rename_i cs h6
      have h7:=hO _ _ _ h2 h6
      simp only [VR,DR] at h7
      obtain ⟨arr,h8,h80,h9⟩:=h7
      obtain ⟨q1,q2⟩:=zWf (P:=P) (off:=fd.offset) h5 h4 h80 h9
      split at hr
      ·rename_i hag
       simp only [Option.some.injEq,Prod.mk.injEq] at hr;obtain ⟨rfl,rfl⟩:=hr
       obtain ⟨y,r1,r2⟩:=q1 hag
       exact zAF (by rw [h8,run];exact r1) r2
      ·rename_i hag
       simp only [Option.some.injEq,Prod.mk.injEq] at hr;obtain ⟨rfl,rfl⟩:=hr
       obtain ⟨y,r1,r2⟩:=q2 (by simpa using hag) hc
       exact zAF (by rw [h8,run];exact r1) r2
     ·rename_i cs h6
      have h7:=hO _ _ _ h2 h6
      simp only [VR] at h7
      obtain ⟨arr,h8,h80,h9⟩:=h7
      obtain ⟨q1,q2⟩:=zWJ (P:=P) (off:=fd.offset) h5 h4 h80 h9
      split at hr
      ·rename_i hag
       simp only [Option.some.injEq,Prod.mk.injEq] at hr;obtain ⟨rfl,rfl⟩:=hr
       obtain ⟨y,r1,r2⟩:=q1 hag
       exact zAF (by rw [h8,run];exact r1) r2
      ·rename_i hag
       simp only [Option.some.injEq,Prod.mk.injEq] at hr;obtain ⟨rfl,rfl⟩:=hr
       obtain ⟨y,r1,r2⟩:=q2 (by simpa using hag) hc
       exact zAF (by rw [h8,run];exact r1) r2
     ·cases hr
    ·cases ht
   ·cases ht
  ·cases ht
 | indexAddr t x i=>
  simp only [trOp] at ht
  split at ht
  ·rename_i e x' i' h1 h2 h3
   simp only [Option.map_eq_some_iff] at ht
   obtain ⟨j,h4,rfl⟩:=ht
   exact zVD h1 h4 (fun p hp=>hO _ _ _ h2 hp) (fun k n hk=>zEm hO h3 hk) hr hc
  ·rename_i m e x' i' h1 h2 h3
   simp only [Option.map_eq_some_iff] at ht
   obtain ⟨j,h4,rfl⟩:=ht
   exact zTV h1 h4 (fun p hp=>hO _ _ _ h2 hp) (fun k n hk=>zEm hO h3 hk) hr hc
  ·cases ht
 | index t x i=>
  simp only [trOp] at ht
  split at ht
  ·rename_i x' i' h1 h2 h3
   simp only [Option.some.injEq] at ht;subst ht
   simp only [rop] at hr
   split at hr
   ·rename_i s k n h4 h5
    simp only [Option.some.injEq,Prod.mk.injEq] at hr;obtain ⟨rfl,rfl⟩:=hr
    have h6:=hO _ _ _ h2 h4
    simp only [VR,DR] at h6
    have h7:=zEm hO h3 h5
    have h8:n.toNat<s.data.size:=by have:=hc.2;simp only [ByteArray.size] at this;omega
    refine zAF (u:= .int .u8 ((s.data.getD n.toNat 0).toNat:Int)) ?_ (by simp [VR,DR])
    rw [h6,h7]
    have h9:s[n.toNat]? =some (s.data.getD n.toNat 0):=by
     have:n.toNat<s.size:=h8
     rw [getElem?_pos s n.toNat this]
     simp [Array.getD_eq_getD_getElem?,Array.getElem?_eq_getElem h8];rfl
    simp [Instr.index,asIntOf,run_underlying h1,hc.1,h9]
   ·cases hr
  ·rename_i m e x' i' h1 h2 h3
   split at ht
   ·rename_i j u h4 h5
    simp only [Option.some.injEq] at ht;subst ht
    have run:∀arr k n,0≤n→n<(m:Int)→(Instr.index t (.agg arr) (.int k n)).run P w=(part e arr (n.toNat*j.size)).run P w:=by
     intro arr k n g1 g2
     simp [Instr.index,asIntOf,run_underlying h1,g1,g2,zBd h4]
    simp only [rop] at hr
    split at hr
    ·rename_i cs k n h6 h6'
     have h7:=hO _ _ _ h2 h6
     simp only [VR,DR] at h7
     obtain ⟨arr,h8,h80,h9⟩:=h7
     obtain ⟨q1,q2⟩:=zWf (P:=P) (off:=n.toNat*j.size) h5 h4 h80 h9
     split at hr
     ·rename_i hag
      simp only [Option.some.injEq,Prod.mk.injEq] at hr;obtain ⟨rfl,rfl⟩:=hr
      obtain ⟨y,r1,r2⟩:=q1 hag
      exact zAF (by rw [h8,zEm hO h3 h6',run _ _ _ hc.1 hc.2.1];exact r1) r2
     ·rename_i hag
      simp only [Option.some.injEq,Prod.mk.injEq] at hr;obtain ⟨rfl,rfl⟩:=hr
      obtain ⟨y,r1,r2⟩:=q2 (by simpa using hag) hc.2.2
      exact zAF (by rw [h8,zEm hO h3 h6',run _ _ _ hc.1 hc.2.1];exact r1) r2
    ·rename_i cs k n h6 h6'
     have h7:=hO _ _ _ h2 h6
     simp only [VR] at h7
     obtain ⟨arr,h8,h80,h9⟩:=h7
     obtain ⟨q1,q2⟩:=zWJ (P:=P) (off:=n.toNat*j.size) h5 h4 h80 h9
     split at hr
     ·rename_i hag
      simp only [Option.some.injEq,Prod.mk.injEq] at hr;obtain ⟨rfl,rfl⟩:=hr
      obtain ⟨y,r1,r2⟩:=q1 hag
      exact zAF (by rw [h8,zEm hO h3 h6',run _ _ _ hc.1 hc.2.1];exact r1) r2
     ·rename_i hag
      simp only [Option.some.injEq,Prod.mk.injEq] at hr;obtain ⟨rfl,rfl⟩:=hr
      obtain ⟨y,r1,r2⟩:=q2 (by simpa using hag) hc.2.2
      exact zAF (by rw [h8,zEm hO h3 h6',run _ _ _ hc.1 hc.2.1];exact r1) r2
    ·cases hr
   ·cases ht
  ·cases ht
 | load t x=>
  simp only [trOp] at ht
  split at ht
  ·rename_i u j x' h1 h2 h3
   simp only [Option.some.injEq] at ht;subst ht
   exact zPz h1 h2 hB (fun p hp=>hO _ _ _ h3 hp) hr hc
  ·split at ht
   ·simp only [Option.some.injEq] at ht;subst ht;cases hr
   ·cases ht
  ·cases ht
 | slice t x lo hi mx=>
  simp only [trOp] at ht
  split at ht
  ·rename_i e x' lo' hi' h1 h2 h3 h4
   simp only [Option.map_eq_some_iff] at ht
   obtain ⟨j,h5,rfl⟩:=ht
   exact zS3 h1 h5 hO h2 h3 h4 hr hc
  ·cases ht
 | extract x i=>
  simp only [trOp,Option.map_eq_some_iff] at ht
  obtain ⟨y,h1,rfl⟩:=ht
  simp only [rop] at hr
  split at hr
  ·rename_i vs h2
   split at hr
   ·rename_i p h3
    simp only [Option.some.injEq,Prod.mk.injEq] at hr;obtain ⟨rfl,rfl⟩:=hr
    have h4:=hO _ _ _ h1 h2
    simp only [VR] at h4
    obtain ⟨arr,h5,h6⟩:=h4
    obtain ⟨z,h7,h8⟩:=h6.getElem? h3
    refine zAF (u:=z) ?_ h8
    rw [h5]
    have h9:arr[i]? =some z:=by simpa using h7
    simp [Instr.extract,h9]
   ·cases hr
  ·cases hr
 | build t parts=>
  simp only [trOp] at ht
  split at ht
  ·rename_i u z ps h1 h2 h3
   split at ht
   ·rename_i h4
    simp only [Option.some.injEq] at ht;subst ht
    rw [Bool.and_eq_true] at h4
    exact zT3 h1 h4.1 h4.2 h2 hO h3 hr
   ·cases ht
  ·cases ht
 | typeAssert x xt t ok=>
  simp only [trOp] at ht
  split at ht
  ·cases ht
  ·rename_i u x' hne h1 h2
   simp only [Option.some.injEq] at ht;subst ht
   have run:∀y,(Instr.typeAssert (.iface t y) xt t ok).run P w= .ok (if ok then .tuple #[y, .bool true] else y) w:=by
    intro y
    simp only [Instr.typeAssert,Sem.run_bind,run_underlying h1,Result.andThen_ok]
    cases u<;>first | (simp;done) | (exfalso;exact hne _ _ h1 h2)
   simp only [rop] at hr
   split at hr
   ·rename_i u' y h3
    split at hr
    ·rename_i he;subst he
     simp only [Option.some.injEq,Prod.mk.injEq] at hr;obtain ⟨rfl,rfl⟩:=hr
     have h4:=hO _ _ _ h2 h3
     simp only [VR,DR] at h4
     obtain ⟨z,h5,h6⟩:=h4
     refine zAF (by rw [h5];exact run z) ?_
     cases ok
     ·simpa [VR] using h6
     ·simp only [if_true,VR,VRs,DR]
      exact ⟨_,rfl,_,_,rfl,h6,_,_,rfl,rfl,rfl⟩
    ·cases hr
   ·rename_i u' y h3
    split at hr
    ·rename_i he;subst he
     simp only [Option.some.injEq,Prod.mk.injEq] at hr;obtain ⟨rfl,rfl⟩:=hr
     have h4:=hO _ _ _ h2 h3
     simp only [VR] at h4
     obtain ⟨z,h5,h6⟩:=h4
     refine zAF (by rw [h5];exact run z) ?_
     cases ok
     ·simpa using h6
     ·simp only [if_true,VR,VRs,DR]
      exact ⟨_,rfl,_,_,rfl,h6,_,_,rfl,rfl,rfl⟩
    ·cases hr
   ·cases hr
  ·cases ht
 | lookup t x y ok'=>
  simp only [trOp] at ht
  split at ht
  ·rename_i q m' k' h1 h2 h3
   split at ht
   ·rename_i hb
    simp only [Option.some.injEq] at ht;subst ht
    obtain ⟨kt,kk,et⟩:=q
    obtain ⟨hu,huk⟩:=zJB h1
    obtain ⟨hkk,het⟩:=zT8 hb
    simp only at hkk het;subst hkk
    simp only [rop] at hr
    split at hr
    ·rename_i tg o' n0 h5 h6
     split at hr
     ·rename_i hM'
      split at hr
      ·rename_i l h7
       simp only [Option.some.injEq,Prod.mk.injEq] at hr;obtain ⟨rfl,rfl⟩:=hr
       have g1:=hO _ _ _ h2 h5
       have g2:=hO _ _ _ h3 h6
       simp only [VR,DR] at g1 g2
       obtain ⟨b,g4,g5⟩:=g1
       rw [zIK hM'] at g5
       obtain ⟨b',es,clock,q1,q2,q3⟩:=hMp _ _ h7 hM'
       rw [g4] at q1;cases q1
       have hik:Go.MapKept.IsKey (.int .i64) (.int .i64 n0):=rfl
       have e1:(Instr.lookup t (ρ x) (ρ y) ok').run P w= .ok (if ok' then .tuple #[.bool (getM l n0), .bool (hasM l n0)] else .bool (getM l n0)) w:=by
        rcases MapR.find n0 0 q3 with ⟨f1,f2,f3,_⟩ | ⟨j,e,f1,f2,_⟩
        ·simp only [Instr.lookup,Sem.run_bind,run_underlying hu,Result.andThen_ok,g5,g2,Go.MapKept.run_getObj_map q2,Sem.run_pure,Go.MapKept.run_checkKey huk hik,Go.MapKept.run_findKey huk f1,zVJ het,f2,f3]
        ·simp only [Instr.lookup,Sem.run_bind,run_underlying hu,Result.andThen_ok,g5,g2,Go.MapKept.run_getObj_map q2,Sem.run_pure,Go.MapKept.run_checkKey huk hik,Go.MapKept.run_findKey huk f1,f2]
       refine ⟨if ok' then .tuple #[.bool (getM l n0), .bool (hasM l n0)] else .bool (getM l n0),by simp only [execOp,Sem.run_bind,e1,Result.andThen_ok,Sem.run_pure], ?_⟩
       cases ok' with
       | false=>simp [VR,DR]
       | true=>
        simp only [if_true,VR,VRs,DR]
        exact ⟨_,rfl,_,_,rfl,rfl,_,_,rfl,rfl,rfl⟩
      ·cases hr
     ·cases hr
    ·cases hr
   ·split at ht
    ·rename_i z' hz
     split at ht
     ·simp only [Option.some.injEq] at ht;subst ht
      obtain ⟨kt,kk,et⟩:=q
      obtain ⟨hu,huk⟩:=zJB h1
      simp only at hz huk⊢
      simp only [rop] at hr
      split at hr
      ·rename_i tg o' k0 n0 h5 h6
       split at hr
       ·rename_i hc
        obtain ⟨hM',rfl⟩:=hc
        split at hr
        ·rename_i cs h7
         split at hr
         ·rename_i ps h8
          simp only [Option.some.injEq,Prod.mk.injEq] at hr;obtain ⟨rfl,rfl⟩:=hr
          have g1:=hO _ _ _ h2 h5
          have g2:=hO _ _ _ h3 h6
          simp only [VR,DR] at g1 g2
          obtain ⟨b,g4,g5⟩:=g1
          rw [zIK hM'] at g5
          obtain ⟨b',es,clock,q1,q2,q3⟩:=hMv _ _ h7 hM'
          rw [g4] at q1;cases q1
          have q4:VRs E w cs (zCk es.toList):=by
           rcases q3 with q3 | ⟨p,rfl⟩
           ·exact q3
           ·simp [zLc] at h8
          have hik:Go.MapKept.IsKey (.int k0) (.int k0 n0):=rfl
          have fin:∀(u:Value) (bb:Bool),(Instr.lookup t (ρ x) (ρ y) ok').run P w= .ok (if ok' then .tuple #[u, .bool bb] else u) w→DR E.prot w (lookD n0 ps z') u→hasK n0 (ps.map Prod.fst)=bb→
            zIh P E w (execOp ρ ⟨dst, .lookup t x y ok',type,pos,after,guard⟩) (if ok'=true then .tup [.d (lookD n0 ps z'), .d (.bool (hasK n0 (ps.map Prod.fst)))] else .d (lookD n0 ps z')):=by
           intro u bb e1 e2 e3
           refine ⟨if ok' then .tuple #[u, .bool bb] else u,by simp only [execOp,Sem.run_bind,e1,Result.andThen_ok,Sem.run_pure], ?_⟩
           cases ok' with
           | false=>simpa [VR] using e2
           | true=>
            simp only [if_true,VR,VRs]
            exact ⟨_,rfl,_,_,rfl,e2,_,_,rfl,by simp only [DR,e3],rfl⟩
          rcases zNU (n:=n0) (z:=z') (i:=0) q4 h8 with ⟨f1,f2,f3⟩ | ⟨j,v,f1,f2,f3⟩
          ·obtain ⟨zv,z1,z2⟩:=zWH (E:=E) (w:=w) hz
           refine fin zv false ?_ (by rw [f2];exact z2) f3
           simp only [Instr.lookup,Sem.run_bind,run_underlying hu,Result.andThen_ok,g5,g2,Go.MapKept.run_getObj_map q2,Sem.run_pure,Go.MapKept.run_checkKey huk hik,Go.MapKept.run_findKey huk f1,z1]
          ·refine fin v true ?_ f2 f3
           simp only [Instr.lookup,Sem.run_bind,run_underlying hu,Result.andThen_ok,g5,g2,Go.MapKept.run_getObj_map q2,Sem.run_pure,Go.MapKept.run_checkKey huk hik,Go.MapKept.run_findKey huk f1]
         ·cases hr
        ·cases hr
       ·cases hr
      ·cases hr
     ·simp only [Option.some.injEq] at ht;subst ht;cases hr
    ·cases ht
  ·cases ht
 | call cl=>
  obtain ⟨callee,args,argTypes⟩:=cl
  simp only [trOp] at ht
  split at ht
  ·split at ht
   ·rename_i t x g1 g2
    have e1:argTypes= #[t]:=by cases argTypes;simp_all
    have e2:args= #[x]:=by cases args;simp_all
    subst e1;subst e2
    split at ht
    ·rename_i e x' h1 h2
     simp only [Option.some.injEq] at ht;subst ht
     have run:∀a n cp,ρ x= .slice a n cp→zIh P E w (execOp ρ ⟨dst, .call ⟨.builtin .len,#[x],#[t]⟩,type,pos,after,guard⟩) (.d (.int .i64 n)):=by
      intro a n cp hx
      refine ⟨goInt n, ?_,by simp [VR,DR,goInt]⟩
      simp [execOp,resolve,invoke,builtin,Builtin.len_,hx,run_underlying h1]
     simp only [rop] at hr
     split at hr
     ·rename_i es h3
      simp only [Option.some.injEq,Prod.mk.injEq] at hr;obtain ⟨rfl,rfl⟩:=hr
      have h4:=hO _ _ _ h2 h3
      simp only [VR,DR] at h4
      rcases h4 with ⟨rfl,a,c0,h5⟩ | ⟨b,o,cap,sz,vs,h5,_⟩
      ·exact run _ _ _ h5
      ·exact run _ _ _ h5
     ·rename_i tt sz off es h3
      simp only [Option.some.injEq,Prod.mk.injEq] at hr;obtain ⟨rfl,rfl⟩:=hr
      have h4:=hO _ _ _ h2 h3
      simp only [VR] at h4
      rcases h4 with ⟨rfl,a,h5⟩ | ⟨b,o,cap,cc,el,fr,vs,_,h5,_⟩
      ·exact run _ _ _ h5
      ·exact run _ _ _ h5
     ·rename_i h3
      simp only [Option.some.injEq,Prod.mk.injEq] at hr;obtain ⟨rfl,rfl⟩:=hr
      have h4:=hO _ _ _ h2 h3
      simp only [VR] at h4
      exact run _ _ _ h4
     ·cases hr
    ·rename_i x' h1 h2
     simp only [Option.some.injEq] at ht;subst ht
     simp only [rop] at hr
     split at hr
     ·rename_i s h3
      simp only [Option.some.injEq,Prod.mk.injEq] at hr;obtain ⟨rfl,rfl⟩:=hr
      have h4:=hO _ _ _ h2 h3
      simp only [VR,DR] at h4
      refine ⟨goInt s.size, ?_,by simp [VR,DR,goInt]⟩
      simp [execOp,resolve,invoke,builtin,Builtin.len_,h4,run_underlying h1]
     ·cases hr
    ·rename_i kt et x' h1 h2
     simp only [Option.some.injEq] at ht;subst ht
     simp only [rop] at hr
     split at hr
     ·rename_i tg o' h3
      split at hr
      ·rename_i hM'
       split at hr
       ·rename_i l h7
        simp only [Option.some.injEq,Prod.mk.injEq] at hr;obtain ⟨rfl,rfl⟩:=hr
        have g1:=hO _ _ _ h2 h3
        simp only [VR] at g1
        obtain ⟨b,g4,g5⟩:=g1
        rw [zIK hM'] at g5
        obtain ⟨b',es,clock,q1,q2,q3⟩:=hMp _ _ h7 hM'
        rw [g4] at q1;cases q1
        have hl:=MapR.len q3
        refine ⟨goInt es.size, ?_,by simp [VR,DR,goInt,←hl]⟩
        simp [execOp,resolve,invoke,builtin,Builtin.len_,g5,run_underlying h1,Go.MapKept.run_getObj_map q2]
       ·cases hr
      ·cases hr
     ·cases hr
    ·cases ht
   ·cases ht
  ·split at ht
   ·rename_i t x g1 g2
    have e1:argTypes= #[t]:=by cases argTypes;simp_all
    have e2:args= #[x]:=by cases args;simp_all
    subst e1;subst e2
    split at ht
    ·rename_i e x' h1 h2
     simp only [Option.some.injEq] at ht;subst ht
     simp only [rop] at hr
     split at hr
     ·rename_i h3
      simp only [Option.some.injEq,Prod.mk.injEq] at hr;obtain ⟨rfl,rfl⟩:=hr
      have h4:=hO _ _ _ h2 h3
      simp only [VR] at h4
      refine ⟨goInt 0, ?_,by simp [VR,DR,goInt]⟩
      simp [execOp,resolve,invoke,builtin,Builtin.cap_,h4,run_underlying h1]
     ·cases hr
    ·cases ht
   ·cases ht
  ·split at ht
   ·rename_i x y g1
    have e2:args= #[x,y]:=by cases args;simp_all
    subst e2
    split at ht
    ·rename_i x' y' h1 h2
     simp only [Option.some.injEq] at ht;subst ht
     simp only [rop] at hr
     split at hr
     ·rename_i k a k' b h3 h4
      simp only [Option.some.injEq,Prod.mk.injEq] at hr;obtain ⟨rfl,rfl⟩:=hr
      have h5:=hO _ _ _ h1 h3
      have h6:=hO _ _ _ h2 h4
      simp only [VR,DR] at h5 h6
      refine ⟨.int k (if b>a then b else a), ?_,by simp [VR,DR]⟩
      simp [execOp,resolve,invoke,builtin,h5,h6,run_max_int2]
     ·cases hr
    ·cases ht
   ·cases ht
  ·split at ht
   ·rename_i x y g1
    have e2:args= #[x,y]:=by cases args;simp_all
    subst e2
    split at ht
    ·rename_i x' y' h1 h2
     simp only [Option.some.injEq] at ht;subst ht
     simp only [rop] at hr
     split at hr
     ·rename_i k a k' b h3 h4
      simp only [Option.some.injEq,Prod.mk.injEq] at hr;obtain ⟨rfl,rfl⟩:=hr
      have h5:=hO _ _ _ h1 h3
      have h6:=hO _ _ _ h2 h4
      simp only [VR,DR] at h5 h6
      refine ⟨.int k (if b<a then b else a), ?_,by simp [VR,DR]⟩
      simp [execOp,resolve,invoke,builtin,h5,h6,run_min_int2]
     ·cases hr
    ·cases ht
   ·rename_i x y z g1
    have e2:args= #[x,y,z]:=by cases args;simp_all
    subst e2
    split at ht
    ·rename_i x' y' z' h1 h2 h2'
     simp only [Option.some.injEq] at ht;subst ht
     simp only [rop] at hr
     split at hr
     ·rename_i k a k' b k'' c h3 h4 h4'
      simp only [Option.some.injEq,Prod.mk.injEq] at hr;obtain ⟨rfl,rfl⟩:=hr
      have h5:=hO _ _ _ h1 h3
      have h6:=hO _ _ _ h2 h4
      have h7:=hO _ _ _ h2' h4'
      simp only [VR,DR] at h5 h6 h7
      refine ⟨.int k (if c<(if b<a then b else a) then c else (if b<a then b else a)), ?_,by simp [VR,DR]⟩
      simp [execOp,resolve,invoke,builtin,h5,h6,h7,Builtin.min_,Builtin.min2]
     ·cases hr
    ·cases ht
   ·cases ht
  all_goals (repeat' split at ht)<;>first | (cases ht;done) | (simp only [Option.map_eq_some_iff,Option.some.injEq] at ht;obtain ⟨_,_,rfl⟩:=ht;cases hr;done) | (simp only [Option.some.injEq] at ht;subst ht;cases hr;done)
 | _=>
  simp only [trOp] at ht
  (repeat' split at ht)<;>first | (cases ht;done) | (simp only [Option.map_eq_some_iff,Option.some.injEq] at ht;obtain ⟨_,_,rfl⟩:=ht;cases hr;done) | (simp only [Option.some.injEq] at ht;subst ht;cases hr;done)
end
end Go.Proofs.YtnmlihfpenjeiaaGreat.Abs
