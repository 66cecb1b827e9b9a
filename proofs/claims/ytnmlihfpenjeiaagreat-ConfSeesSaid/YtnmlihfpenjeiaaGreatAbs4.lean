/- Rules for code. Conditions: none. -/
import Derived.Test.YtnmlihfpenjeiaaGreatAbs3
import Derived.IntWalk
namespace Go.Proofs.YtnmlihfpenjeiaaGreat.Abs
open Go Go.RowKit
set_option linter.unusedVariables false
set_option linter.unusedSimpArgs false
section
variable {P:Program} {N:Nat} {E:Env} {w:World} {st:St} {tmps:Array Value}
theorem zZJ {c:Code} {st st':St} {Q:Kd→St→Prop} (ρ:List (Tg×Tg)) (h:St.le ρ st st') (hc:Ev P N c st' Q):Ev P N c st Q:=by
 intro E w a h1 h2 h3
 refine wp_mono (hc (E.ren ρ) w a h1 (h2.ren h.1) (h3.le h)) ?_
 rintro e a' w' ⟨k,st2,E',g1,g2,g3⟩
 exact ⟨k,st2,E',g1,g2,Tld.from (Step.ren E w ρ) g3⟩
theorem zZ1 {ι:Type} {c:Code} (S:ι→St) (μ:ι→Nat) {Q:Kd→St→Prop} (h:∀x,Ev P N c (S x) fun k st'=>match k with | .norm=>∃y ρ,μ y<μ x∧St.le ρ st' (S y) | k=>Q k st')
  {x:ι} {st:St} (ρ:List (Tg×Tg)) (hx:St.le ρ st (S x)):Ev P N (.loop c) st Q:=
 zZJ ρ hx (zYE S μ (fun x=>(h x).mono fun k s hk=>by
  cases k with
  | norm=>
   obtain ⟨y,ρ,g1,g2⟩:=hk
   exact ⟨y,g1,fun E w tmps k1 k2=>⟨E.ren ρ,k1.ren g2.1,k2.le g2,Step.ren E w ρ⟩⟩
  | _=>exact hk) x)
theorem zYl {st:St} {Q:Kd→St→Prop} (h:Q .norm st):Ev P N .skip st Q:=fun E w a h1 h2 h3=>wp_skip ⟨.norm,st,E,rfl,h,Tld.refl h1 h2 h3⟩
theorem zYs {id:Nat} {st:St} {Q:Kd→St→Prop} (h:Q (.exit id) st):Ev P N (.exit id) st Q:=fun E w a h1 h2 h3=>wp_exit ⟨.exit id,st,E,rfl,h,Tld.refl h1 h2 h3⟩
theorem zZl {st:St} {Q:Kd→St→Prop} (h:Q .ret st):Ev P N .ret st Q:=fun E w a h1 h2 h3=>wp_ret ⟨.ret,st,E,rfl,h,Tld.refl h1 h2 h3⟩
theorem zZz {id:Nat} {ops:Array Oper} {al:List zAo} {st:St} {Q:Kd→St→Prop} (ht:zAT P N ops (id*100) ops.toList=some al) (h:zBC P al st (Q .norm)):Ev P N (.region id ops false) st Q:=by
 intro E w a h1 h2 h3
 refine wp_region_list ?_
 exact zG4 (E0:=E) (w0:=w) (d0:=a.defers) (fun E' w' st' a' hT hk=>⟨.norm,st',E',rfl,hk,hT.tld⟩) _ _ al ht E w st a ⟨h1,rfl,h2,h3,Step.refl _ _⟩ h
def St.litO (st:St) (o:Opd) (b:Bool):St:=match o with
 | .t n=>st.lit n b
 | .c _=>st
theorem zUs {c:Operand} {o:Opd} {x y:Code} {st:St} {Q:Kd→St→Prop} (hc:trO c=some o) {b:Bool} (hb:st.val o=some (.d (.bool b))) (hx:b=true→Ev P N x (st.litO o true) Q) (hy:b=false→Ev P N y (st.litO o false) Q):Ev P N (.cond c x y) st Q:=by
 intro E w a h1 h2 h3
 have hv:=zMD hc h3 hb
 simp only [VR,DR] at hv
 have hl:StR E w (st.litO o b) a.tmps:=by
  cases o with
  | c p=>exact h3
  | t n=>
   obtain ⟨u,g1,g2⟩:=h3.get (show st.get n=some (.d (.bool b)) from hb)
   exact h3.known g1 g2
 exact wp_cond_split hv (fun h=>hx h E w a h1 h2 (by rw [h] at hl;exact hl)) (fun h=>hy h E w a h1 h2 (by rw [h] at hl;exact hl))
theorem zYm {id:Nat} {ops:Array Oper} {al:List zAo} {its:List DIt} {st:St} {Q:Kd→St→Prop} (ht:zAT P N ops (id*100) ops.toList=some al) (hd:zH7 P ops al=some its) (h:zAV P its st (Q .norm)):Ev P N (.region id ops true) st Q:=by
 intro E w a h1 h2 h3
 simp only [zH7] at hd
 split at hd
 ·rename_i hc
  simp only [Option.some.injEq] at hd;subst hd
  simp only [Bool.and_eq_true] at hc
  have hS:=zQP hc.2
  refine wp_region_any hc.1 ?_
  have hv:zAm E { w with drawn:=w.drawn+1 }:=⟨h2.row_lt,h2.box_lt,h2.row_row,h2.box_box,h2.row_box,h2.prot_lt⟩
  have hs:StR E { w with drawn:=w.drawn+1 } st a.tmps:=h3.keep (fun _ h=>h) (fun _ _=>rfl) (fun _ _ h=>⟨h,rfl⟩) (fun _ _ h=>⟨h,rfl⟩)
  have hT:Told N E w a.defers E { w with drawn:=w.drawn+1 } st a:=⟨h1,rfl,hv,hs,⟨rfl,rfl,rfl,Nat.le_refl _,(by first | exact Nat.le_refl _ | exact Nat.le_succ _),fun _ _ _=>rfl,fun _ h=> .inl h,fun _ h=>h,fun _ h=> .inl h,fun _ _ h=>h⟩⟩
  have hun:∀i,i<ops.size→(Array.replicate ops.size false).getD i true=false:=fun i hi=>by
   simp [Array.getD_eq_getD_getElem?,Array.getElem?_replicate,hi]
  refine zUQ (tb:=ancs ops ops.size) hS ht (K:=Q .norm) (fun E' w' st' a' hT hk=>⟨.norm,st',E',rfl,hk,hT.tld⟩) ops.size _ [] _ a _ a E st rfl ?_ h ?_
  ·exact ⟨hT,fun i hi hl=>(by rw [hun i hi] at hl;cases hl),fun i hi=>(by simp at hi),fun i hi hl=>(by rw [hun i hi] at hl;cases hl),by simp,rfl,rfl,fun _ _=>rfl,fun i o hi=>(by simp at hi)⟩
  ·unfold unl
   exact Nat.le_trans (List.length_filter_le _ _) (by simp)
 ·cases hd
theorem zXs {id:Nat} {ops:Array Oper} {al:List zAo} {l:List (List DIt)} {st:St} {Q:Kd→St→Prop} (ht:zAT P N ops (id*100) ops.toList=some al) (hd:zLD P ops al=some l) (h:∀its∈l,zAV P its st (Q .norm)):Ev P N (.region id ops true) st Q:=by
 intro E w a h1 h2 h3
 simp only [zLD] at hd
 split at hd
 ·rename_i hc
  simp only [Option.some.injEq] at hd;subst hd
  simp only [Bool.and_eq_true] at hc
  have hM:=zXn hc.2.2
  refine wp_region_any hc.1 ?_
  have hv:zAm E { w with drawn:=w.drawn+1 }:=⟨h2.row_lt,h2.box_lt,h2.row_row,h2.box_box,h2.row_box,h2.prot_lt⟩
  have hs:StR E { w with drawn:=w.drawn+1 } st a.tmps:=h3.keep (fun _ h=>h) (fun _ _=>rfl) (fun _ _ h=>⟨h,rfl⟩) (fun _ _ h=>⟨h,rfl⟩)
  have hT:Told N E w a.defers E { w with drawn:=w.drawn+1 } st a:=⟨h1,rfl,hv,hs,⟨rfl,rfl,rfl,Nat.le_refl _,(by first | exact Nat.le_refl _ | exact Nat.le_succ _),fun _ _ _=>rfl,fun _ h=> .inl h,fun _ h=>h,fun _ h=> .inl h,fun _ _ h=>h⟩⟩
  have hun:∀i,i<ops.size→(Array.replicate ops.size false).getD i true=false:=fun i hi=>by
   simp [Array.getD_eq_getD_getElem?,Array.getElem?_replicate,hi]
  obtain ⟨c0,hc0⟩:=List.exists_mem_of_ne_nil _ hM.ne
  refine zXP hM ht (K:=Q .norm) (fun E' w' st' a' hT hk=>⟨.norm,st',E',rfl,hk,hT.tld⟩) ops.size [] _ a _ ⟨c0,hc0,List.nil_prefix⟩ (fun i hi=> ?_) (fun c hc' _=>⟨[],c.ord,rfl,a,E,st, ?_,h _ (List.mem_map_of_mem hc')⟩) ?_
  ·have hlt:i<ops.size:=(hM.stat c0 hc0).lt (i,true) ((zLO (hM.seq c0 hc0)).2 ((hM.all c0 hc0 i).2 hi))
   rw [hun i hlt];simp
  ·exact ⟨hT,fun i hi hl=>(by rw [hun i hi] at hl;cases hl),fun i hi=>(by simp at hi),fun i hi hl=>(by rw [hun i hi] at hl;cases hl),by simp,rfl,rfl,fun _ _=>rfl,fun i o hi=>(by simp at hi)⟩
  ·unfold unl
   exact Nat.le_trans (List.length_filter_le _ _) (by simp)
 ·cases hd
end
end Go.Proofs.YtnmlihfpenjeiaaGreat.Abs
namespace Go.Proofs.YtnmlihfpenjeiaaGreat.Abs
open Go Go.RowKit
set_option linter.unusedVariables false
set_option linter.unusedSimpArgs false
inductive RV where
 | t (n:Nat)
 | c (n:Nat) (ag:Bool) (sz:Nat)
 deriving Inhabited
def zJA (P:Program):List ResultVar→Option (List RV)
 | []=>some []
 | .tmp t::r=>(zJA P r).map (.t t::·)
 | .cell a t::r=>match P.underlying t,P.info? t,zJA P r with
  | some u,some j,some rs=>some (.c a (aggT u) j.size::rs)
  | _,_,_=>none
def resL (st:St):List RV→Option (Prop×List PV)
 | []=>some (True,[])
 | .t n::r=>match st.get n,resL st r with
  | some p,some (c,ps)=>some (c,p::ps)
  | _,_=>none
 | .c n ag sz::r=>match st.get n with
  | some (.ptr k o)=>match rop (.load ag sz (.t n)) st.val st.box,resL st r with
   | some (c',p),some (c,ps)=>some (c'∧c,p::ps)
   | _,_=>none
  | _=>none
def resP (res:List RV) (st:St):Option (Prop×PV):=
 match resL st res with
 | some (c,[p])=>some (c,p)
 | some (c,ps)=>some (c, .tup ps)
 | none=>none
def resM (tmps:Array Value):ResultVar→Sem Value
 | .tmp t=>pure (tmps.getD t undef)
 | .cell a t=>do loadVar t (←asAddr (tmps.getD a undef))
theorem zVt (fn:Func) (tmps:Array Value):results fn tmps=(do let vs ←fn.results.mapM (resM tmps);pure (if h:vs.size=1 then vs[0] else .tuple vs)):=by
 unfold results
 congr 1
section
variable {P:Program} {N:Nat} {E:Env} {w:World} {st:St} {tmps:Array Value}
theorem zLU (hs:StR E w st tmps):∀(l:List ResultVar) (res:List RV) (c:Prop) (ps:List PV),zJA P l=some res→resL st res=some (c,ps)→c→
  ∃vs:List Value,VRs E w ps vs∧(l.mapM (resM tmps)).run P w= .ok vs w
 | [],res,c,ps,ht,hr,hc=>by
  simp only [zJA,Option.some.injEq] at ht;subst ht
  simp only [resL,Option.some.injEq,Prod.mk.injEq] at hr;obtain ⟨rfl,rfl⟩:=hr
  exact ⟨[],by simp [VRs],by simp⟩
 | .tmp t::r,res,c,ps,ht,hr,hc=>by
  simp only [zJA,Option.map_eq_some_iff] at ht
  obtain ⟨rs,h1,rfl⟩:=ht
  simp only [resL] at hr
  split at hr
  ·rename_i p c' ps' h2 h3
   simp only [Option.some.injEq,Prod.mk.injEq] at hr;obtain ⟨rfl,rfl⟩:=hr
   obtain ⟨vs,g1,g2⟩:=zLU hs r rs _ _ h1 h3 hc
   obtain ⟨u,g3,g4⟩:=hs.get h2
   refine ⟨u::vs,by simp only [VRs];exact ⟨u,vs,rfl,g4,g1⟩, ?_⟩
   have:tmps.getD t undef=u:=by simp [Array.getD_eq_getD_getElem?,g3]
   simp only [List.mapM_cons,resM,Sem.run_bind,Sem.run_pure,Result.andThen_ok,this,g2]
  ·cases hr
 | .cell a t::r,res,c,ps,ht,hr,hc=>by
  simp only [zJA] at ht
  split at ht
  ·rename_i u j rs hu hj h1
   simp only [Option.some.injEq] at ht;subst ht
   simp only [resL] at hr
   split at hr
   ·rename_i k o h2
    split at hr
    ·rename_i c' p c2 ps' h3 h4
     simp only [Option.some.injEq,Prod.mk.injEq] at hr;obtain ⟨rfl,rfl⟩:=hr
     obtain ⟨vs,g1,g2⟩:=zLU hs r rs _ _ h1 h4 hc.2
     obtain ⟨vx,g3,g4⟩:=hs.get h2
     have hx:∀q,st.val (.t a)=some q→VR E w q vx:=by
      intro q hq;simp only [St.val] at hq;rw [h2] at hq;cases hq;exact g4
     obtain ⟨v,g5,g6⟩:=zPz hu hj hs.bxR hx h3 hc.1
     have hM:k.isM=false:=by
      cases hm:k.isM with
      | false=>rfl
      | true=>simp [rop,St.val,h2,hm] at h3
     simp only [VR] at g4
     obtain ⟨b,g7,rfl⟩:=g4
     rw [zFg hM] at g3 g5
     have g8:tmps.getD a undef= .pointer (some ⟨b,o,none⟩):=by simp [Array.getD_eq_getD_getElem?,g3]
     have g9:(loadVar t ⟨b,o,none⟩).run P w= .ok v w:=by
      simp only [Instr.loadAt,Instr.sureAddr,Sem.run_bind,Sem.run_pure,Result.andThen_ok] at g5
      generalize (loadVar t ⟨b,o,none⟩).run P w=rr at g5⊢
      cases rr with
      | ok y w'=>
       simp only [Result.andThen_ok,Sem.run_pure,Result.ok.injEq] at g5
       obtain ⟨g5,rfl⟩:=g5
       cases g5;rfl
      | halt y w'=>simp [Result.andThen] at g5
     refine ⟨v::vs,by simp only [VRs];exact ⟨v,vs,rfl,g6,g1⟩, ?_⟩
     simp only [List.mapM_cons,resM,Sem.run_bind,g8,asAddr,Sem.run_pure,Result.andThen_ok,g9,g2]
    ·cases hr
   ·cases hr
  ·cases ht
theorem zVw {fn:Func} {res:List RV} (ht:zJA P fn.results.toList=some res) (hs:StR E w st tmps) {c:Prop} {p:PV} (hr:resP res st=some (c,p)) (hc:c):
  ∃v,(results fn tmps).run P w= .ok v w∧VR E w p v:=by
 have key:∀c ps,resL st res=some (c,ps)→c→∃vs:List Value,VRs E w ps vs∧(results fn tmps).run P w= .ok (if h:vs.toArray.size=1 then vs.toArray[0] else .tuple vs.toArray) w:=by
  intro c ps h1 h2
  obtain ⟨vs,g1,g2⟩:=zLU hs _ _ _ _ ht h1 h2
  refine ⟨vs,g1, ?_⟩
  have e:fn.results=fn.results.toList.toArray:=by simp
  rw [zVt,e,List.mapM_toArray]
  simp only [Sem.run_bind,map_eq_pure_bind,g2,Result.andThen_ok,Sem.run_pure]
 unfold resP at hr
 split at hr
 ·rename_i c' q h1
  simp only [Option.some.injEq,Prod.mk.injEq] at hr;obtain ⟨rfl,rfl⟩:=hr
  obtain ⟨vs,g1,g2⟩:=key _ _ h1 hc
  simp only [VRs] at g1
  obtain ⟨u,us,rfl,g3,rfl⟩:=g1
  exact ⟨u,by simpa using g2,g3⟩
 ·rename_i c' ps hne h1
  simp only [Option.some.injEq,Prod.mk.injEq] at hr;obtain ⟨rfl,rfl⟩:=hr
  obtain ⟨vs,g1,g2⟩:=key _ _ h1 hc
  have hl:=g1.length
  have:vs.length≠1:=by
   intro e
   rw [e] at hl
   match ps,hl with
   | [q],_=>exact hne q rfl
  refine ⟨.tuple vs.toArray, ?_,by simp only [VR];exact ⟨_,rfl,by simpa using g1⟩⟩
  rw [g2]
  simp [this]
 ·cases hr
def zZ4 (res:List RV) (r:PV) (bx':List (Tg×List PV)) (k:Kd) (st:St):Prop:=
 (match k with | .exit _=>False | _=>True)∧match resP res st with
  | some (c,p)=>c∧∃ρ,St.le ρ ⟨[(0,p)],st.bx⟩ ⟨[(0,r)],bx'⟩
  | none=>False
def shut:List Nat→World→World
 | [],w=>w
 | D::l,w=>shut l (w.putObj D (.deferred none))
theorem zO8:∀(l:List Nat) (w:World),(shut l w).drawn=w.drawn
 | [],w=>rfl
 | D::l,w=>by rw [shut,zO8 l];rfl
theorem zQ6:∀(l:List Nat) (w:World),(shut l w).os=w.os∧(shut l w).tape=w.tape∧(shut l w).output=w.output∧(shut l w).heap.size=w.heap.size∧∀b,b∉l→(shut l w).heap[b]? =w.heap[b]?
 | [],w=>⟨rfl,rfl,rfl,rfl,fun _ _=>rfl⟩
 | D::l,w=>by
  obtain ⟨h1,h2,h3,h4,h5⟩:=zQ6 l (w.putObj D (.deferred none))
  refine ⟨h1,h2,h3,by rw [shut,h4];simp,fun b hb=> ?_⟩
  simp only [List.mem_cons,not_or] at hb
  rw [shut,h5 b hb.2,World.putObj_heap_other hb.1]
theorem zNW {fn:Func} {tmps:Array Value} {R:Ending→World→Prop}:∀(l:List Nat) (w:World),l.Nodup→(∀D∈l,w.heap[D]? =some (.deferred (some [])))→
  (∃v,(results fn tmps).run P (shut l w)= .ok v (shut l w)∧R (.returned v) (shut l w))→LeavesInM Fence.wide 0 P fn tmps R (l.map mark) .returning w
 | [],w,_,_,h=>h
 | D::l,w,hn,hd,h=>by
  have hn':=List.nodup_cons.1 hn
  refine ⟨by simp, .inl ⟨D,w.putObj D (.deferred none),rfl,run_takeDeferred (hd D (by simp)), ?_⟩⟩
  refine zNW l _ hn'.2 (fun D' hD'=> ?_) h
  rw [World.putObj_heap_other (fun e=>by subst e;exact hn'.1 hD')]
  exact hd D' (by simp [hD'])
theorem zQK {f:FuncId} {fn:Func} {c:Code} {args:Array Value} {w:World} {R:Ending→World→Prop} (hf:P.funcs[f]? =some fn) (hb:fn.body=some c)
  (h:c.wp P (fun e a' w'=>(e= .normal∨e= .ret)∧∃l:List Nat,a'.defers=l.map mark∧l.Nodup∧(∀D∈l,w'.heap[D]? =some (.deferred (some [])))∧∃v,(results fn a'.tmps).run P (shut l w')= .ok v (shut l w')∧R (.returned v) (shut l w'))
   { tmps:=args++Array.replicate (fn.ntmps-args.size) undef,defers:=[] } w):Calls P f args w R:=by
 refine callsIn_wide.1 (callsIn_of_wp_marks (n:=0) hf hb trivial (wpIn_wide.2 (wp_mono h ?_)))
 rintro e a' w' ⟨he,l,h1,h2,h3,h4⟩
 have:=zNW (P:=P) (fn:=fn) (tmps:=a'.tmps) (R:=R) l w' h2 h3 h4
 rcases he with rfl | rfl<;>(simp only [bodyPostM,h1];exact this)
theorem Tld.shut {N:Nat} {E0 E:Env} {w0 w:World} {st:St} {a:Act} (h:Tld N E0 w0 [] E w st a):∃l:List Nat,a.defers=l.map mark∧l.Nodup∧(∀D∈l,w.heap[D]? =some (.deferred (some [])))∧
  zAm E (shut l w)∧StR E (shut l w) st a.tmps∧Step E0 w0 E (Abs.shut l w):=by
 obtain ⟨l,h1,h2,h3⟩:=h.defers.ex
 obtain ⟨s1,s2,s3,s4,s5⟩:=zQ6 l w
 have hq:zD7 w (Abs.shut l w):=⟨by rw [s4];exact Nat.le_refl _,fun b c el fr hb=>by
  rw [s5 b (fun hm=>by have:=(h3 b hm).2.1;rw [hb] at this;cases this)];exact hb,fun b es ck hb=>by
  rw [s5 b (fun hm=>by have:=(h3 b hm).2.1;rw [hb] at this;cases this)];exact hb⟩
 exact ⟨l,by simpa using h1,h2,fun D hD=>(h3 D hD).2.1,h.valid.calm hq,h.str.calm hq,h.step.turn s1 s2 s3 (by rw [s4];exact Nat.le_refl _) (by rw [zO8];exact Nat.le_refl _) fun b hb=>s5 b fun hm=>by have:=(h3 b hm).1;omega⟩
theorem zVP {f:FuncId} {ds:List D} {r:PV} (h:EvG P f (ds.map .d) [] r []):EvF P f ds r:=by
 refine ⟨h.1,fun pr w vs hp hd=> ?_⟩
 have hv:zAm ⟨fun _=>none,fun _=>none,pr⟩ w:=⟨fun _ _ _ h=>by simp at h,fun _ _ h=>by simp at h,fun _ _ _ _ _ h=>by simp at h,fun _ _ _ h=>by simp at h,fun _ _ _ _ h=>by simp at h,hp⟩
 refine (h.2 ⟨fun _=>none,fun _=>none,pr⟩ w vs hv ⟨fun d p hm=> ?_,fun k cs hm=>by simp [zJ8] at hm⟩ (by have:=hd.length;simpa using this)).mono ?_
 ·obtain ⟨_,h2⟩:=zOr hm
  rw [Nat.sub_zero,List.getElem?_map,Option.map_eq_some_iff] at h2
  obtain ⟨x,h3,rfl⟩:=h2
  obtain ⟨u,h4,h5⟩:=hd.getElem? h3
  exact ⟨u,by simpa using h4,by simpa only [VR] using h5⟩
 ·rintro e w' ⟨v,E',rfl,g1,g2,g3⟩
  obtain ⟨u,g4,g5⟩:=g2.tm 0 r (by simp)
  simp at g4;subst g4
  have hno:∀b,¬Own (⟨fun _=>none,fun _=>none,pr⟩:Env) b:=by
   rintro b (⟨t,o,h⟩ | ⟨k,h⟩)<;>simp at h
  exact ⟨v,E',rfl,g1,g5,⟨⟨g3.os,g3.tape,g3.output,g3.size,fun b hb=>g3.frame b hb (hno b)⟩,g3.drawn⟩,fun b hb=>(g3.own b hb).resolve_left (hno b),g3.prot,
   fun b hb=>(g3.prot' b hb).elim .inl (fun h=>h.elim (fun h=>absurd h (hno b)) .inr)⟩
end
end Go.Proofs.YtnmlihfpenjeiaaGreat.Abs
namespace Go.Proofs.YtnmlihfpenjeiaaGreat.Abs
open Go Go.RowKit
set_option linter.unusedVariables false
set_option linter.unusedSimpArgs false
def vc (P:Program) (N:Nat):AC→St→(Kd→St→Prop)→Prop
 | .skip,st,Q=>Q .norm st
 | .reg ops,st,Q=>zBC P ops st (Q .norm)
 | .draw its,st,Q=>zAV P its st (Q .norm)
 | .draws l,st,Q=>∀its∈l,zAV P its st (Q .norm)
 | .seq a b,st,Q=>vc P N a st fun k s=>match k with
  | .norm=>vc P N b s Q
  | k=>Q k s
 | .cond c a b,st,Q=>match st.val c with
  | some (.d (.bool t))=>(t=true→vc P N a (st.litO c true) Q)∧(t=false→vc P N b (st.litO c false) Q)
  | _=>False
 | .block id a,st,Q=>vc P N a st fun k s=>match k with
  | .exit i=>if i=id then Q .norm s else Q (.exit i) s
  | k=>Q k s
 | .loop a,st,Q=>EvC P N (.loop a) st Q
 | .rng g p d its,st,Q=>EvC P N (.rng g p d its) st Q
 | .exit id,st,Q=>Q (.exit id) st
 | .ret,st,Q=>Q .ret st
section
variable {P:Program} {N:Nat}
theorem zEM:∀(ac:AC) (st:St) (Q:Kd→St→Prop),vc P N ac st Q→EvC P N ac st Q
 | .skip,st,Q,h=>fun c hc=>by
  cases c<;>simp only [tr] at hc<;>(repeat' split at hc)<;>first | (rcases zA6 hc with ⟨_,h,_⟩ | ⟨_,h,_⟩<;>cases h;done) | (simp only [Option.map_eq_some_iff] at hc;obtain ⟨_,_,hc⟩:=hc;cases hc;done) | exact zYl h | (cases hc;done) | (obtain ⟨_,_,hc⟩:=hc;cases hc;done) | (simp only [Option.some.injEq] at hc;split at hc<;>cases hc;done)
 | .reg ops,st,Q,h=>fun c hc=>by
  cases c<;>simp only [tr] at hc
  case region id os draw=>
   split at hc
   ·rename_i as h1
    split at hc
    ·rcases zA6 hc with ⟨its',h3,h2⟩ | ⟨its',h3,h2⟩<;>cases h3
    ·rename_i hd;cases hc;cases draw
     ·exact zZz h1 h
     ·exact absurd rfl hd
   ·cases hc
  all_goals (repeat' split at hc)<;>first | (rcases zA6 hc with ⟨_,h,_⟩ | ⟨_,h,_⟩<;>cases h;done) | (simp only [Option.map_eq_some_iff] at hc;obtain ⟨_,_,hc⟩:=hc;cases hc;done) | (cases hc;done) | (obtain ⟨_,_,hc⟩:=hc;cases hc;done)
 | .draw its,st,Q,h=>fun c hc=>by
  cases c<;>simp only [tr] at hc
  case region id os draw=>
   split at hc
   ·rename_i as h1
    split at hc
    ·rename_i hd
     rcases zA6 hc with ⟨its',h3,h2⟩ | ⟨its',h3,h2⟩<;>cases h3
     subst hd
     exact zYm h1 h2 h
    ·cases hc
   ·cases hc
  all_goals (repeat' split at hc)<;>first | (rcases zA6 hc with ⟨_,h,_⟩ | ⟨_,h,_⟩<;>cases h;done) | (simp only [Option.map_eq_some_iff] at hc;obtain ⟨_,_,hc⟩:=hc;cases hc;done) | (cases hc;done) | (obtain ⟨_,_,hc⟩:=hc;cases hc;done)
 | .draws its,st,Q,h=>fun c hc=>by
  cases c<;>simp only [tr] at hc
  case region id os draw=>
   split at hc
   ·rename_i as h1
    split at hc
    ·rename_i hd
     rcases zA6 hc with ⟨its',h3,h2⟩ | ⟨its',h3,h2⟩<;>cases h3
     subst hd
     exact zXs h1 h2 h
    ·cases hc
   ·cases hc
  all_goals (repeat' split at hc)<;>first | (rcases zA6 hc with ⟨_,h,_⟩ | ⟨_,h,_⟩<;>cases h;done) | (simp only [Option.map_eq_some_iff] at hc;obtain ⟨_,_,hc⟩:=hc;cases hc;done) | (cases hc;done) | (obtain ⟨_,_,hc⟩:=hc;cases hc;done)
 | .seq a b,st,Q,h=>fun c hc=>by
  cases c<;>simp only [tr] at hc
  case seq x y=>
   split at hc
   ·rename_i a' b' h1 h2
    cases hc
    refine zWq ((zEM a st _ h x h1).mono fun k s hk=> ?_)
    cases k with
    | norm=>exact zEM b s Q hk y h2
    | _=>exact hk
   ·cases hc
  all_goals (repeat' split at hc)<;>first | (rcases zA6 hc with ⟨_,h,_⟩ | ⟨_,h,_⟩<;>cases h;done) | (simp only [Option.map_eq_some_iff] at hc;obtain ⟨_,_,hc⟩:=hc;cases hc;done) | (cases hc;done) | (obtain ⟨_,_,hc⟩:=hc;cases hc;done) | (simp only [Option.some.injEq] at hc;split at hc<;>cases hc;done)
 | .cond o a b,st,Q,h=>fun c hc=>by
  cases c<;>simp only [tr] at hc
  case cond c x y=>
   split at hc
   ·rename_i c' a' b' h0 h1 h2
    cases hc
    simp only [vc] at h
    split at h
    ·rename_i t ht
     exact zUs h0 ht (fun e=>zEM a _ Q (h.1 e) x h1) (fun e=>zEM b _ Q (h.2 e) y h2)
    ·exact h.elim
   ·cases hc
  all_goals (repeat' split at hc)<;>first | (rcases zA6 hc with ⟨_,h,_⟩ | ⟨_,h,_⟩<;>cases h;done) | (simp only [Option.map_eq_some_iff] at hc;obtain ⟨_,_,hc⟩:=hc;cases hc;done) | (cases hc;done) | (obtain ⟨_,_,hc⟩:=hc;cases hc;done) | (simp only [Option.some.injEq] at hc;split at hc<;>cases hc;done)
 | .block id a,st,Q,h=>fun c hc=>by
  cases c<;>simp only [tr] at hc
  case block i x=>
   simp only [Option.map_eq_some_iff] at hc
   obtain ⟨a',h1,h2⟩:=hc
   cases h2
   refine zSI ((zEM a st _ h x h1).mono fun k s hk=> ?_)
   cases k<;>exact hk
  all_goals (repeat' split at hc)<;>first | (rcases zA6 hc with ⟨_,h,_⟩ | ⟨_,h,_⟩<;>cases h;done) | (simp only [Option.map_eq_some_iff] at hc;obtain ⟨_,_,hc⟩:=hc;cases hc;done) | (cases hc;done) | (obtain ⟨_,_,hc⟩:=hc;cases hc;done) | (simp only [Option.some.injEq] at hc;split at hc<;>cases hc;done)
 | .loop a,st,Q,h=>h
 | .rng g p d its,st,Q,h=>h
 | .exit id,st,Q,h=>fun c hc=>by
  cases c<;>simp only [tr] at hc<;>(repeat' split at hc)<;>first | (rcases zA6 hc with ⟨_,h,_⟩ | ⟨_,h,_⟩<;>cases h;done) | (simp only [Option.map_eq_some_iff] at hc;obtain ⟨_,_,hc⟩:=hc;cases hc;done) | (cases hc;exact zYs h) | (cases hc;done) | (obtain ⟨_,_,hc⟩:=hc;cases hc;done) | (simp only [Option.some.injEq] at hc;split at hc<;>cases hc;done)
 | .ret,st,Q,h=>fun c hc=>by
  cases c<;>simp only [tr] at hc<;>(repeat' split at hc)<;>first | (rcases zA6 hc with ⟨_,h,_⟩ | ⟨_,h,_⟩<;>cases h;done) | (simp only [Option.map_eq_some_iff] at hc;obtain ⟨_,_,hc⟩:=hc;cases hc;done) | (cases hc;exact zZl h) | (cases hc;done) | (obtain ⟨_,_,hc⟩:=hc;cases hc;done) | (simp only [Option.some.injEq] at hc;split at hc<;>cases hc;done)
def fnA (P:Program) (f:FuncId):Option (Nat×List RV×AC):=
 match P.funcs[f]? with
 | some fn=>match fn.body with
  | some c=>match tr P fn.ntmps c,zJA P fn.results.toList with
   | some ac,some res=>if fn.name== "runtime.NumGoroutine" then none else some (fn.ntmps,res,ac)
   | _,_=>none
  | none=>none
 | none=>none
end
end Go.Proofs.YtnmlihfpenjeiaaGreat.Abs
namespace Go.Proofs.YtnmlihfpenjeiaaGreat.Abs
open Go Go.RowKit
set_option linter.unusedVariables false
set_option linter.unusedSimpArgs false
section
variable {P:Program} {N n:Nat} {tm:List (Nat×PV)} {bx:List (Tg×List PV)} {Q:Kd→St→Prop} {K:St→Prop}
def zRE (P:Program) (n f:Nat) (args:List Opd) (st:St) (K:PV→St→Prop):Prop:=
 (match zA8 st.val args with
  | some ps=>zFt P n f ps st K∨zLt P f ps st K
  | none=>False)∨zRT P n f args st K
theorem zZQ {f:Nat} {args:List Opd} {st:St} {ds:List D} {r:PV} {K:PV→St→Prop} (h:EvF P f ds r) (h1:(zA8 st.val args).bind (PV.toDBL st.box)=some ds) (h2:r.rok=true) (h3:r.noLst) (hK:K (r.mapT (zFl n)) (st.rebinds n r.tags)):zRE P n f args st K:=by
 obtain ⟨ps,g1,g2⟩:=Option.bind_eq_some_iff.1 h1
 refine .inl ?_
 rw [g1]
 exact .inl ⟨ds,r,h,h2, .inl ⟨g2,h3,hK⟩⟩
theorem zZZ {f:Nat} {args:List Opd} {st:St} {ds:List D} {r:PV} {K:PV→St→Prop} (F:List Tg) (h:EvF P f ds r) (h1:(zA8 st.val args).bind PV.toDL=some ds) (hF:(zA8 st.val args).map PV.tagsL=some F) (h2:r.rok=true) (hK:K (r.mapT (zFl n)) ((st.frz F).rebinds n r.tags)):zRE P n f args st K:=by
 obtain ⟨ps,g1,g2⟩:=Option.bind_eq_some_iff.1 h1
 rw [g1] at hF
 simp only [Option.map_some,Option.some.injEq] at hF;subst hF
 refine .inl ?_
 rw [g1]
 exact .inl ⟨ds,r,h,h2, .inr ⟨g2,hK⟩⟩
theorem zZU {f:Nat} {args:List Opd} {st:St} {ps:List PV} {bx:List (Tg×List PV)} {r:PV} {bx':List (Tg×List PV)} {K:PV→St→Prop} (h:EvG P f ps bx r bx') (ρ:List (Tg×Tg)) (F:List Tg) (h1:(ρ.map Prod.snd).Nodup) (h2:upIn ρ bx=true) (h3:r.gok ρ=true) (h4:gokB ρ bx'=true)
  (h5:match zA8 ((st.frz F).rebinds n (r.tags++zBh bx')).val args with
   | some as=>PV.leL (gvR ρ) (gvB ρ) as ps
   | none=>False) (h6:leBx (gvR ρ) (gvB ρ) ((st.frz F).rebinds n (r.tags++zBh bx')) bx)
  (hK:K (r.mapT (sgF ρ n)) (((st.frz F).rebinds n (r.tags++zBh bx')).give ρ n bx')):zRE P n f args st K:=by
 split at h5
 ·rename_i as g1
  exact .inr ⟨ps,bx,r,bx',ρ,F,as,h,h1,h2,h3,h4,g1,h6, .inl h5,hK⟩
 ·exact h5.elim
theorem zZM {f:Nat} {args:List Opd} {st:St} {ps:List PV} {bx:List (Tg×List PV)} {r:PV} {bx':List (Tg×List PV)} {K:PV→St→Prop} (h:EvG P f ps bx r bx') (ρ:List (Tg×Tg)) (h1:(ρ.map Prod.snd).Nodup) (h2:upIn ρ bx=true) (h3:r.gok ρ=true) (h4:gokB ρ bx'=true)
  (h5:match zA8 (st.rebinds n (r.tags++zBh bx')).val args with
   | some as=>zKu (ρ.map Prod.snd) (gvR ρ) (gvB ρ) as ps
   | none=>False) (h6:leBx (gvR ρ) (gvB ρ) (st.rebinds n (r.tags++zBh bx')) bx) (h8:r.noLst) (h9:zF7 bx')
  (hK:K (r.mapT (sgF ρ n)) ((st.rebinds n (r.tags++zBh bx')).give ρ n bx')):zRE P n f args st K:=by
 split at h5
 ·rename_i as g1
  exact .inr ⟨ps,bx,r,bx',ρ,[],as,h,h1,h2,h3,h4,g1,h6, .inr ⟨h5,h8,h9⟩,hK⟩
 ·exact h5.elim
abbrev ints (k:IntKind) (l:List Int):List D:=l.map (D.int k)
end
end Go.Proofs.YtnmlihfpenjeiaaGreat.Abs
