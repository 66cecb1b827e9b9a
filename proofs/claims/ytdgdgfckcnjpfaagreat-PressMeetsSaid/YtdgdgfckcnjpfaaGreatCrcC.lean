/- The table is made once: what Do does, with the closure. -/
import Derived.Test.YtdgdgfckcnjpfaaGreatCrcA
import Derived.Test.YtdgdgfckcnjpfaaGreatCrcB
namespace Go.Proofs.YtdgdgfckcnjpfaaGreat.Crc
open Go Go.RowKit Go.Proofs.YtdgdgfckcnjpfaaGreat.Abs
set_option maxRecDepth 100000
set_option linter.unusedVariables false
open Z
theorem VRs_set {E:Env} {w:World} {p:PV} {v:Value} (h:VR E w p v):∀{cs:List PV} {l:List Value} {i:Nat},VRs E w cs l→VRs E w (cs.set i p) (l.set i v)
 | [],l,i,hs=>by simp only [VRs] at hs;subst hs;simp [VRs]
 | c::cs,l,0,hs=>by
  simp only [VRs] at hs
  obtain ⟨u,us,rfl,h1,h2⟩:=hs
  simp only [List.set_cons_zero,VRs]
  exact ⟨v,us,rfl,h,h2⟩
 | c::cs,l,i+1,hs=>by
  simp only [VRs] at hs
  obtain ⟨u,us,rfl,h1,h2⟩:=hs
  simp only [List.set_cons_succ,VRs]
  exact ⟨u,us.set i v,rfl,h1,VRs_set h h2⟩
section
variable {E:Env} {w:World} {tm:List (Nat×PV)} {bx:List (Tg×List PV)} {tmps:Array Value}
theorem box_cell {k:Tg} {cs:List PV} {b i:Nat} {p:PV} {st:St} (hs:StR E w st tmps) (hm:(k,cs)∈st.bx) (hk:E.box k=some b) (hi:cs[i]? =some p) (hM:k.isM=false:=by rfl):∃u,w.cell? ⟨b,i,none⟩=some u∧VR E w p u∧w.frozen? ⟨b,i,none⟩=false:=by
 obtain ⟨b',c,el,fr,h1,h2,h3,h4,h5⟩:=hs.bxc hm hM
 rw [hk] at h1;cases h1
 have:∀{cs:List PV} {l:List Value} {i:Nat},VRs E w cs l→cs[i]? =some p→∃u,l[i]? =some u∧VR E w p u:=by
  intro cs
  induction cs with
  | nil=>intro l i _ h;simp at h
  | cons c cs ih=>
   intro l i hs hi
   simp only [VRs] at hs
   obtain ⟨u,us,rfl,g1,g2⟩:=hs
   cases i with
   | zero=>simp at hi;subst hi;exact ⟨u,rfl,g1⟩
   | succ i=>simp at hi;simpa using ih g2 hi
 obtain ⟨u,g1,g2⟩:=this h5 hi
 have g3:c[i]? =some u:=by simpa using g1
 have g4:=(Array.getElem?_eq_some_iff.1 g3).1
 refine ⟨u,by simp [World.cell?,h2,g3],g2, ?_⟩
 simp only [World.frozen?,h2,Bool.and_eq_false_iff,decide_eq_false_iff_not]
 rcases h3 with hf | hf
 ·omega
 ·left;omega
theorem box_poke {k:Tg} {cs:List PV} {b i:Nat} {p:PV} {v:Value} {st:St} (hv:zAg E w) (hs:StR E w st tmps) (hm:(k,cs)∈st.bx) (hk:E.box k=some b) (hp:VR E w p v) (h1:v.oneCell'=true) (hM:k.isM=false:=by rfl):
  zAg E (w.setCell ⟨b,i,none⟩ v)∧StR E (w.setCell ⟨b,i,none⟩ v) (st.setBox k (cs.set i p)) tmps∧Step E w E (w.setCell ⟨b,i,none⟩ v):=by
 obtain ⟨b',c,el,fr,g1,h2,h3,h4,h5⟩:=hs.bxc hm hM
 rw [hk] at g1;cases g1
 rw [zQD h2]
 have hb:=(hv.box_lt k b hk).1
 refine ⟨hv.setBlk _ _,zTV hv hs hM hk (by simpa [Unfz] using h3) ?_ ?_ hb,Step.setBlk hv _ (.inr ⟨k,hk⟩)⟩
 ·intro x hx
  rw [Array.toList_setIfInBounds] at hx
  rcases List.mem_or_eq_of_mem_set hx with hx | rfl
  ·exact h4 x hx
  ·exact h1
 ·rw [Array.toList_setIfInBounds]
  exact VRs_set hp h5
theorem drew_ok {st:St} (hv:zAg E w) (hs:StR E w st tmps):zAg E w.drew∧StR E w.drew st tmps∧Step E w E w.drew:=by
 have keep:∀p v,VR E w p v→VR E w.drew p v:=fun p v h=>VR.keep (E:=E) (E':=E) (w:=w) (w':=w.drew) p v ⟨fun _ h=>h,fun _ _=>rfl,fun _ _ _ h=>⟨h,rfl⟩,fun _ _ _ h=>h⟩ h
 have keeps:∀p v,VRs E w p v→VRs E w.drew p v:=fun p v h=>VRs.keep (E:=E) (E':=E) (w:=w) (w':=w.drew) p v ⟨fun _ h=>h,fun _ _=>rfl,fun _ _ _ h=>⟨h,rfl⟩,fun _ _ _ h=>h⟩ h
 refine ⟨⟨hv.row_lt,hv.box_lt,hv.row_row,hv.box_box,hv.row_box,hv.prot_lt⟩,⟨fun d v hm=> ?_,fun k cs hm=> ?_⟩,⟨rfl,rfl,rfl,Nat.le_refl _,Nat.le_succ _,fun _ _ _=>rfl,fun _ h=> .inl h,fun _ h=>h,fun _ h=> .inl h,fun _ _ h=>h⟩⟩
 ·obtain ⟨u,h2,h3⟩:=hs.tm d v hm
  exact ⟨u,h2,keep _ _ h3⟩
 ·obtain ⟨b',o',vs',h2,h3,h4,h6⟩:=hs.bx k cs hm
  exact ⟨b',o',vs',h2,h3,h4,keeps _ _ h6⟩
end
theorem do66:EvG Tryz.prog 208 [.ptr (.up (.s 0)) 0, .clo (.func 209) [] [.ptr (.up (.s 1)) 0]] [(.up (.s 0),mkC 0 0 (List.replicate 256 0)),(.up (.s 1),[.ptr (.up (.s 0)) 0])] (.tup []) [(.up (.s 0),mkC 1 0 tabL),(.up (.s 1),[.ptr (.up (.s 0)) 0])]:=by
 refine ⟨⟨_,Tryz.func208,by kernel_rfl,by kernel_rfl⟩,fun E w vs hv hs hsz=> ?_⟩
 obtain ⟨u0,g0,r0⟩:=hs.tm 0 (.ptr (.up (.s 0)) 0) (by simp [zDP,enum])
 obtain ⟨u1,g1,r1⟩:=hs.tm 1 (.clo (.func 209) [] [.ptr (.up (.s 1)) 0]) (by simp [zDP,enum])
 simp only [VR,VRs,zEc (show (Tg.up (.s 0)).isM=false from rfl),zEc (show (Tg.up (.s 1)).isM=false from rfl)] at r0 r1
 obtain ⟨b,hb,rfl⟩:=r0
 obtain ⟨fa,fb,rfl,hfa,u2,us,hfb,⟨b1,hb1,rfl⟩,rfl⟩:=r1
 have hvs:vs= #[.pointer (some ⟨b,0,none⟩), .func (.func 209) #[] #[.pointer (some ⟨b1,0,none⟩)]]:=by
  have e1:fa= #[]:=by simpa using hfa
  have e2:fb= #[.pointer (some ⟨b1,0,none⟩)]:=by rw [←Array.toList_inj,hfb]
  subst e1 e2
  apply Array.ext_getElem?
  intro i
  match i with
  | 0=>rw [g0];rfl
  | 1=>rw [g1];rfl
  | i+2=>simp at hsz;rw [Array.getElem?_eq_none (by omega)];simp
 subst hvs
 have m0:((.up (.s 0):Tg),mkC 0 0 (List.replicate 256 0))∈(zDP [.ptr (.up (.s 0)) 0, .clo (.func 209) [] [.ptr (.up (.s 1)) 0]] [(.up (.s 0),mkC 0 0 (List.replicate 256 0)),(.up (.s 1),[.ptr (.up (.s 0)) 0])]).bx:=by simp [zDP]
 obtain ⟨x0,c0,q0,z0⟩:=box_cell (i:=0) hs m0 hb rfl
 obtain ⟨x1,c1,q1,z1⟩:=box_cell (i:=1) hs m0 hb rfl
 simp only [VR,DR] at q0 q1
 subst q0 q1
 obtain ⟨v1,s1,t1⟩:=box_poke (i:=1) (p:= .d (.int .i32 1)) (v:= .int .i32 1) hv hs m0 hb (by simp [VR,DR]) rfl
 have s1':StR E (w.setCell ⟨b,1,none⟩ (.int .i32 1)) (zDP [.ptr (.up (.s 1)) 0] [(.up (.s 0),mkC 0 1 (List.replicate 256 0)),(.up (.s 1),[.ptr (.up (.s 0)) 0])]) #[.pointer (some ⟨b1,0,none⟩)]:=by
  refine ⟨fun d v hm=> ?_,s1.bx⟩
  simp only [zDP,enum,List.mem_singleton] at hm
  cases hm
  exact ⟨_,rfl,by simp only [VR];exact ⟨b1,hb1,rfl⟩⟩
 have hc:=closure67.2 E _ _ v1 s1' rfl
 have tell:∀w',(∃v E',v= .tuple #[]∧zAg E' w'∧StR E' w' ⟨[(0, .tup [])],[(.up (.s 0),mkC 0 1 tabL),(.up (.s 1),[.ptr (.up (.s 0)) 0])]⟩ #[v]∧Step E (w.setCell ⟨b,1,none⟩ (.int .i32 1)) E' w')→
   (w'.cell? ⟨b,0,none⟩=some (.int .u32 0)∧w'.frozen? ⟨b,0,none⟩=false)∧(w'.cell? ⟨b,1,none⟩=some (.int .i32 1)∧w'.frozen? ⟨b,1,none⟩=false):=by
  rintro w' ⟨v,E',rfl,k1,k2,k3⟩
  have hb':=k3.pin _ _ hb
  have m1:((.up (.s 0):Tg),mkC 0 1 tabL)∈(⟨[(0, .tup [])],[(.up (.s 0),mkC 0 1 tabL),(.up (.s 1),[.ptr (.up (.s 0)) 0])]⟩:St).bx:=by simp
  obtain ⟨y0,d0,e0,f0⟩:=box_cell (i:=0) k2 m1 hb' rfl
  obtain ⟨y1,d1,e1,f1⟩:=box_cell (i:=1) k2 m1 hb' rfl
  simp only [VR,DR] at e0 e1
  subst e0 e1
  exact ⟨⟨d0,f0⟩,d1,f1⟩
 refine (do_first b ⟨b1,0,none⟩ w (fun w'=>∃v E',v= .tuple #[]∧zAg E' w'∧StR E' w' ⟨[(0, .tup [])],[(.up (.s 0),mkC 0 1 tabL),(.up (.s 1),[.ptr (.up (.s 0)) 0])]⟩ #[v]∧Step E (w.setCell ⟨b,1,none⟩ (.int .i32 1)) E' w') c0 c1 z1 (hc.mono ?_)
  (fun w' h=>(tell w' h).1.1) (fun w' h=>(tell w' h).2.1) (fun w' h=>(tell w' h).1.2) (fun w' h=>(tell w' h).2.2)).mono ?_
 ·rintro e w' ⟨v,E',rfl,k1,k2,k3⟩
  obtain ⟨u,y1,y2⟩:=k2.tm 0 (.tup []) (by simp)
  have:v= .tuple #[]:=by
   simp only [VR,VRs] at y2
   obtain ⟨arr,rfl,y3⟩:=y2
   have:arr= #[]:=by simpa using y3
   subst this
   simpa using y1
  subst this
  exact ⟨rfl,_,E',rfl,k1,k2,k3⟩
 ·rintro e w' ⟨rfl,w2,⟨v,E',rfl,k1,k2,k3⟩,rfl⟩
  have hb':=k3.pin _ _ hb
  obtain ⟨l1,l2,l3⟩:=drew_ok k1 k2
  obtain ⟨m1,m2,m3⟩:=box_poke (k:= .up (.s 0)) (cs:=mkC 0 1 tabL) (b:=b) (i:=0) (p:= .d (.int .u32 1)) (v:= .int .u32 1) l1 l2 (by simp) hb' (by simp [VR,DR]) rfl
  obtain ⟨n1,n2,n3⟩:=box_poke (k:= .up (.s 0)) (cs:=mkC 1 1 tabL) (b:=b) (i:=1) (p:= .d (.int .i32 0)) (v:= .int .i32 0) m1 m2 (by simp [St.setBox,mkC]) hb' (by simp [VR,DR]) rfl
  exact ⟨_,E',rfl,n1,n2,(t1.trans k3).trans (l3.trans (m3.trans n3))⟩
end Go.Proofs.YtdgdgfckcnjpfaaGreat.Crc
