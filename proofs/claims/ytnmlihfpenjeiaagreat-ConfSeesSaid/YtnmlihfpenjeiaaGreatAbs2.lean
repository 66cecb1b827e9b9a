/- Names given up, given anew, and rows that stay from now on. Conditions: none. -/
import Derived.Test.YtnmlihfpenjeiaaGreatAbs1
import Derived.IntWalk
import Derived.Lib.ConvBytes
import Derived.Laws.AppendOwn
import Derived.MapKept
namespace Go.Proofs.YtnmlihfpenjeiaaGreat.Abs
open Go Go.RowKit
set_option linter.unusedVariables false
set_option linter.unusedSimpArgs false
def zIf (t:Tg):PV→PV
 | .sl u sz off es=>if u=t then .unk else .sl u sz off es
 | .ptr k o=>if k=t then .unk else .ptr k o
 | .ep u sz i f e=>if u=t then .unk else .ep u sz i f e
 | p=>p
def frzF (ts:List Tg):PV→PV
 | .sl u sz off es=>if u∈ts then .d (.lst es) else .sl u sz off es
 | .ep u sz i f e=>if u∈ts then (match e with | some x=> .d (.cp x.cells (f.getD 0)) | none=> .unk) else .ep u sz i f e
 | p=>p
def St.rebind (st:St) (t:Tg):St:=⟨zIl (zIf t) st.tm,delB t (zIq (zIf t) st.bx)⟩
def St.frz (st:St) (ts:List Tg):St:=match ts with
 | []=>st
 | _=>st.map (frzF ts)
def Tg.isUp:Tg→Bool
 | .up _=>true
 | _=>false
def Env.unbind (E:Env) (t:Tg):Env:=⟨fun u=>if u=t then none else E.row u,fun u=>if u=t∧u.isUp=false then none else E.box u,E.prot⟩
def Env.bindRow (E:Env) (t:Tg) (b o:Nat):Env:=⟨fun u=>if u=t then some (b,o) else E.row u,E.box,E.prot⟩
def Env.bindBox (E:Env) (t:Tg) (b:Nat):Env:=⟨E.row,fun u=>if u=t then some b else E.box u,E.prot⟩
def Env.frz (E:Env) (ts:List Tg):Env:=⟨fun u=>if u∈ts then none else E.row u,E.box,fun b=>E.prot b∨∃t∈ts,∃o,E.row t=some (b,o)⟩
section
variable {E:Env} {w:World} {st:St} {tmps:Array Value}
theorem Env.unbind_row {t u:Tg} {r:Nat×Nat}:(E.unbind t).row u=some r↔u≠t∧E.row u=some r:=by
 simp only [Env.unbind];split<;>simp_all
theorem Env.unbind_box {t u:Tg} {b:Nat}:(E.unbind t).box u=some b↔(u≠t∨u.isUp=true)∧E.box u=some b:=by
 simp only [Env.unbind]
 by_cases h1:u=t<;>by_cases h2:u.isUp=true<;>simp [h1,h2]<;>simp_all
theorem Env.frz_row {ts:List Tg} {u:Tg} {r:Nat×Nat}:(E.frz ts).row u=some r↔u∉ts∧E.row u=some r:=by
 simp only [Env.frz];split<;>simp_all
theorem Own.unbind {t:Tg} {b:Nat} (h:Own (E.unbind t) b):Own E b:=by
 rcases h with ⟨u,o,h⟩ | ⟨k,h⟩
 ·exact .inl ⟨u,o,(Env.unbind_row.1 h).2⟩
 ·exact .inr ⟨k,(Env.unbind_box.1 h).2⟩
theorem zAm.unbind (h:zAm E w) (t:Tg):zAm (E.unbind t) w:=by
 refine ⟨fun u b o hu=>h.row_lt u b o (Env.unbind_row.1 hu).2,fun k b hk=>h.box_lt k b (Env.unbind_box.1 hk).2, ?_, ?_, ?_,h.prot_lt⟩
 ·exact fun u v b o o' hu hv=>h.row_row u v b o o' (Env.unbind_row.1 hu).2 (Env.unbind_row.1 hv).2
 ·exact fun u v b hu hv=>h.box_box u v b (Env.unbind_box.1 hu).2 (Env.unbind_box.1 hv).2
 ·exact fun u k b o hu hk=>h.row_box u k b o (Env.unbind_row.1 hu).2 (Env.unbind_box.1 hk).2
theorem Step.unbind (h:zAm E w) (t:Tg):Step E w (E.unbind t) w:=
 ⟨rfl,rfl,rfl,Nat.le_refl _,Nat.le_refl _,fun _ _ _=>rfl,fun _ hb=> .inl hb.unbind,fun _ hb=>hb,fun _ hb=> .inl hb,fun _ _ hb=>Env.unbind_box.2 ⟨.inr rfl,hb⟩⟩
theorem zLH {t : Tg} {p : PV} {v : Value} (hl : p.leaf = true) (h : VR E w p v) : VR (E.unbind t) w (zIf t p) v := by
  have hk : ∀ u, u ≠ t → zHL E (E.unbind t) w w [u] := fun u hu =>
    ⟨fun _ h => h, fun _ _ => rfl, fun x hx r hr => by simp at hx; subst hx; exact ⟨Env.unbind_row.2 ⟨hu, hr⟩, rfl⟩, fun x hx b hb => by simp at hx; subst hx; exact Env.unbind_box.2 ⟨.inl hu, hb⟩⟩
  cases p with
  | sl u sz off es => simp only [zIf]; split; · simp [VR]
                      · rename_i hu; exact VR.keep _ _ (hk u hu) h
  | ptr u o => simp only [zIf]; split; · simp [VR]
               · rename_i hu; exact VR.keep _ _ (hk u hu) h
  | ep u sz i f e => simp only [zIf]; split; · simp [VR]
                     · rename_i hu; exact VR.keep _ _ (hk u hu) h
  | _ => simp [PV.leaf] at hl
theorem StR.rebind (hv:zAm E w) (h:StR E w st tmps) (t:Tg):StR (E.unbind t) w (st.rebind t) tmps:=by
 refine ⟨fun d v hm=> ?_,fun k cs hm=> ?_⟩
 ·obtain ⟨u,h1,rfl⟩:=zIA hm
  obtain ⟨x,h2,h3⟩:=h.tm d u h1
  exact ⟨x,h2,VR.map (E:=E) (w:=w) (E':=E.unbind t) (w':=w) (fun _ h=>h) (fun _ _=>rfl) (fun p v hl hp=>zLH hl hp) u x h3⟩
 ·obtain ⟨hne,hm⟩:=zH3 hm
  obtain ⟨u,h1,rfl⟩:=zIS hm
  obtain ⟨b,o,vs,h2,h3,h4,h5⟩:=h.bx k u h1
  exact ⟨b,o,vs,Env.unbind_box.2 ⟨.inl hne,h2⟩,h3,h4,VRs.map (E:=E) (w:=w) (E':=E.unbind t) (w':=w) (fun _ h=>h) (fun _ _=>rfl) (fun p v hl hp=>zLH hl hp) u _ h5⟩
theorem Own.frz {ts:List Tg} {b:Nat} (h:Own (E.frz ts) b):Own E b:=by
 rcases h with ⟨u,o,h⟩ | ⟨k,h⟩
 ·exact .inl ⟨u,o,(Env.frz_row.1 h).2⟩
 ·exact .inr ⟨k,h⟩
theorem zAm.frz (h:zAm E w) (ts:List Tg):zAm (E.frz ts) w:=by
 refine ⟨fun u b o hu=>⟨(h.row_lt u b o (Env.frz_row.1 hu).2).1, ?_⟩,fun k b hk=>⟨(h.box_lt k b hk).1, ?_⟩, ?_,h.box_box, ?_, ?_⟩
 ·rintro (hp | ⟨t,ht,o',hr⟩)
  ·exact (h.row_lt u b o (Env.frz_row.1 hu).2).2 hp
  ·have:=h.row_row _ _ _ _ _ (Env.frz_row.1 hu).2 hr
   subst this;exact (Env.frz_row.1 hu).1 ht
 ·rintro (hp | ⟨t,ht,o',hr⟩)
  ·exact (h.box_lt k b hk).2 hp
  ·exact h.row_box _ _ _ _ hr hk
 ·exact fun u v b o o' hu hv=>h.row_row u v b o o' (Env.frz_row.1 hu).2 (Env.frz_row.1 hv).2
 ·exact fun u k b o hu hk=>h.row_box u k b o (Env.frz_row.1 hu).2 hk
 ·rintro b (hp | ⟨t,ht,o',hr⟩)
  ·exact h.prot_lt b hp
  ·exact (h.row_lt _ _ _ hr).1
theorem Step.frz (h:zAm E w) (ts:List Tg):Step E w (E.frz ts) w:=by
 refine ⟨rfl,rfl,rfl,Nat.le_refl _,Nat.le_refl _,fun _ _ _=>rfl,fun _ hb=> .inl hb.frz,fun _ hb=> .inl hb, ?_,fun _ _ hb=>hb⟩
 rintro b (hp | ⟨t,ht,o',hr⟩)
 ·exact .inl hp
 ·exact .inr (.inl (.inl ⟨t,o',hr⟩))
theorem zVU {ts:List Tg} {p:PV} {v:Value} (hl:p.leaf=true) (h:VR E w p v):VR (E.frz ts) w (frzF ts p) v:=by
 have hk:∀u,u∉ts→zHL E (E.frz ts) w w [u]:=fun u hu=>
  ⟨fun _ h=> .inl h,fun _ _=>rfl,fun x hx r hr=>by simp at hx;subst hx;exact ⟨Env.frz_row.2 ⟨hu,hr⟩,rfl⟩,fun x hx b hb=>hb⟩
 cases p with
 | sl u sz off es=>
  simp only [frzF];split
  ·rename_i hu
   simp only [VR,DR] at h⊢
   rcases h with ⟨h,a,h'⟩ | ⟨b,o,cap,c,el,fr,vs,h1,h2,h3,h4,hf,h5,h6,h7,h8⟩
   ·exact .inl ⟨h,a,0,h'⟩
   ·exact .inr ⟨b,_,cap,sz,vs,h2,h3, .inr ⟨u,hu,o,h1⟩,h6,h7,DRs.mono (fun _ h=> .inl h) (fun _ _=>rfl) _ _ h8⟩
  ·rename_i hu;exact VR.keep _ _ (hk u hu) h
 | ptr u o=>
  simp only [frzF,VR] at h⊢
  exact h
 | ep u sz i f e=>
  simp only [frzF];split
  ·rename_i hu
   cases e with
   | none=>simp [VR]
   | some x=>
    simp only [VR,DR] at h⊢
    obtain ⟨b,o,c,el,fr,h1,h2,h3,hf,h4,h5⟩:=h
    obtain ⟨y,h6,h7,h8⟩:=h5 x rfl
    exact ⟨b,_,y.cells.toList,h2, .inr ⟨u,hu,o,h1⟩,h6.one,h8,DRs.mono (fun _ h=> .inl h) (fun _ _=>rfl) _ _ h6.cells⟩
  ·rename_i hu;exact VR.keep _ _ (hk u hu) h
 | _=>simp [PV.leaf] at hl
theorem StR.frz0 (hv:zAm E w) (h:StR E w st tmps) (ts:List Tg):StR (E.frz ts) w (st.map (frzF ts)) tmps:=
 h.map (fun _ h=> .inl h) (fun _ _=>rfl) (fun p v hl hp=>zVU hl hp) (fun k cs hm b hb=>⟨hb,rfl⟩)
theorem StR.frz (hv:zAm E w) (h:StR E w st tmps) (ts:List Tg):StR (E.frz ts) w (st.frz ts) tmps:=by
 cases ts with
 | nil=>
  simp only [St.frz]
  exact h.keep (fun _ h=> .inl h) (fun _ _=>rfl) (fun t r hr=>⟨Env.frz_row.2 ⟨by simp,hr⟩,rfl⟩) (fun k b hb=>⟨hb,rfl⟩)
 | cons t ts=>exact h.frz0 hv (t::ts)
mutual
theorem zID {pr:Nat→Prop} (hp:∀b,E.prot b→pr b):∀(p:PV) (v:Value) (x:D),p.toD=some x→(∀t∈p.tags,∀b o,E.row t=some (b,o)→pr b)→VR E w p v→DR pr w x v
 | .unk,v,x,h,ht,hv=>by simp [PV.toD] at h
 | .d y,v,x,h,ht,hv=>by
  simp only [PV.toD,Option.some.injEq] at h;subst h
  simp only [VR] at hv
  exact DR.mono hp (fun _ _=>rfl) _ _ hv
 | .nils,v,x,h,ht,hv=>by
  simp only [PV.toD,Option.some.injEq] at h;subst h
  simp only [VR] at hv;subst hv
  simp only [DR];exact .inl ⟨trivial,_,_,rfl⟩
 | .sl t sz off es,v,x,h,ht,hv=>by
  simp only [PV.toD,Option.some.injEq] at h;subst h
  simp only [VR,DR] at hv⊢
  rcases hv with ⟨h,a,h'⟩ | ⟨b,o,cap,c,el,fr,vs,h1,h2,h3,h4,hf,h5,h6,h7,h8⟩
  ·exact .inl ⟨h,a,0,h'⟩
  ·exact .inr ⟨b,_,cap,sz,vs,h2,h3,ht t (by simp [PV.tags]) b o h1,h6,h7,DRs.mono hp (fun _ _=>rfl) _ _ h8⟩
 | .ptr k o,v,x,h,ht,hv=>by simp [PV.toD] at h
 | .ep t sz i f e,v,x,h,ht,hv=>by simp [PV.toD] at h
 | .agg cs,v,x,h,ht,hv=>by
  simp only [PV.toD,Option.map_eq_some_iff] at h
  obtain ⟨ys,h1,rfl⟩:=h
  simp only [VR,DR] at hv⊢
  obtain ⟨arr,h2,h0,h3⟩:=hv
  exact ⟨arr,h2,h0,zEI hp cs _ ys h1 (by simpa only [PV.tags] using ht) h3⟩
 | .clo fn a b,v,x,h,ht,hv=>by
  simp only [PV.toD] at h
  split at h
  ·rename_i a' b' h1 h2
   simp only [Option.some.injEq] at h;subst h
   simp only [VR,DR] at hv⊢
   obtain ⟨fa,fb,h3,h4,h5⟩:=hv
   simp only [PV.tags,List.mem_append] at ht
   exact ⟨fa,fb,h3,zEI hp a _ a' h1 (fun t h=>ht t (.inl h)) h4,zEI hp b _ b' h2 (fun t h=>ht t (.inr h)) h5⟩
  ·cases h
 | .ifc t y,v,x,h,ht,hv=>by
  simp only [PV.toD,Option.map_eq_some_iff] at h
  obtain ⟨z,h1,rfl⟩:=h
  simp only [VR,DR] at hv⊢
  obtain ⟨u,h2,h3⟩:=hv
  exact ⟨u,h2,zID hp y u z h1 (by simpa only [PV.tags] using ht) h3⟩
 | .tup xs,v,x,h,ht,hv=>by simp [PV.toD] at h
theorem zEI {pr:Nat→Prop} (hp:∀b,E.prot b→pr b):∀(ps:List PV) (vs:List Value) (xs:List D),PV.toDL ps=some xs→(∀t∈PV.tagsL ps,∀b o,E.row t=some (b,o)→pr b)→VRs E w ps vs→DRs pr w xs vs
 | [],vs,xs,h,ht,hv=>by
  simp only [PV.toDL,Option.some.injEq] at h;subst h
  simpa only [VRs,DRs] using hv
 | p::ps,vs,xs,h,ht,hv=>by
  simp only [PV.toDL] at h
  split at h
  ·rename_i y ys h1 h2
   simp only [Option.some.injEq] at h;subst h
   simp only [VRs,DRs] at hv⊢
   obtain ⟨u,us,h3,h4,h5⟩:=hv
   simp only [PV.tagsL,List.mem_append] at ht
   exact ⟨u,us,h3,zID hp p u y h1 (fun t h=>ht t (.inl h)) h4,zEI hp ps us ys h2 (fun t h=>ht t (.inr h)) h5⟩
  ·cases h
end
theorem zYu {p:PV} {v:Value} {x:D} {ts:List Tg} (h:p.toD=some x) (ht:∀t∈p.tags,t∈ts) (hv:VR E w p v):DR (E.frz ts).prot w x v:=
 zID (pr:=(E.frz ts).prot) (fun _ h=> .inl h) p v x h (fun t h b o hr=> .inr ⟨t,ht t h,o,hr⟩) hv
theorem StR.grow {w':World} (hv:zAm E w) (h:StR E w st tmps) (hw:∀b,b<w.heap.size→w'.heap[b]? =w.heap[b]?):StR E w' st tmps:=
 h.keep (fun _ h=>h) (fun b hb=>hw b (hv.prot_lt b hb)) (fun t r hr=>⟨hr,hw _ (hv.row_lt t r.1 r.2 hr).1⟩) (fun k b hb=>⟨hb,hw _ (hv.box_lt k b hb).1⟩)
theorem zAm.grow {w':World} (h:zAm E w) (hs:w.heap.size≤w'.heap.size):zAm E w':=
 ⟨fun t b o hr=>⟨Nat.lt_of_lt_of_le (h.row_lt t b o hr).1 hs,(h.row_lt t b o hr).2⟩,fun k b hb=>⟨Nat.lt_of_lt_of_le (h.box_lt k b hb).1 hs,(h.box_lt k b hb).2⟩,
  h.row_row,h.box_box,h.row_box,fun b hb=>Nat.lt_of_lt_of_le (h.prot_lt b hb) hs⟩
theorem zAm.bindRow {t:Tg} {b o:Nat} (h:zAm E w) (ht:E.row t=none) (ho:¬Own E b) (hp:¬E.prot b) (hb:b<w.heap.size):zAm (E.bindRow t b o) w:=by
 have hr:∀u b' o',(E.bindRow t b o).row u=some (b',o')→(u=t∧b'=b∧o'=o)∨(u≠t∧E.row u=some (b',o')):=by
  intro u b' o' hu
  simp only [Env.bindRow] at hu
  split at hu
  ·rename_i he;simp at hu;exact .inl ⟨he,hu.1.symm,hu.2.symm⟩
  ·rename_i he;exact .inr ⟨he,hu⟩
 refine ⟨fun u b' o' hu=> ?_,h.box_lt,fun u v b' o1 o2 hu hv=> ?_,h.box_box,fun u k b' o' hu hk=> ?_,h.prot_lt⟩
 ·rcases hr u b' o' hu with ⟨_,rfl,_⟩ | ⟨_,hu⟩
  ·exact ⟨hb,hp⟩
  ·exact h.row_lt u b' o' hu
 ·rcases hr u b' o1 hu with ⟨rfl,rfl,_⟩ | ⟨h1,hu⟩<;>rcases hr v _ o2 hv with ⟨rfl,h2,_⟩ | ⟨h2,hv⟩
  ·rfl
  ·exact absurd (.inl ⟨_,_,hv⟩) ho
  ·subst h2;exact absurd (.inl ⟨_,_,‹E.row u=_›⟩) ho
  ·exact h.row_row u v b' o1 o2 ‹E.row u=_› hv
 ·rcases hr u b' o' hu with ⟨rfl,rfl,_⟩ | ⟨h1,hu⟩
  ·exact ho (.inr ⟨k,hk⟩)
  ·exact h.row_box u k b' o' hu hk
theorem zAm.bindBox {t:Tg} {b:Nat} (h:zAm E w) (ht:E.box t=none) (ho:¬Own E b) (hp:¬E.prot b) (hb:b<w.heap.size):zAm (E.bindBox t b) w:=by
 have hr:∀u b',(E.bindBox t b).box u=some b'→(u=t∧b'=b)∨(u≠t∧E.box u=some b'):=by
  intro u b' hu
  simp only [Env.bindBox] at hu
  split at hu
  ·rename_i he;simp at hu;exact .inl ⟨he,hu.symm⟩
  ·rename_i he;exact .inr ⟨he,hu⟩
 refine ⟨h.row_lt,fun u b' hu=> ?_,h.row_row,fun u v b' hu hv=> ?_,fun u k b' o' hu hk=> ?_,h.prot_lt⟩
 ·rcases hr u b' hu with ⟨_,rfl⟩ | ⟨_,hu⟩
  ·exact ⟨hb,hp⟩
  ·exact h.box_lt u b' hu
 ·rcases hr u b' hu with ⟨rfl,rfl⟩ | ⟨h1,hu⟩<;>rcases hr v _ hv with ⟨rfl,h2⟩ | ⟨h2,hv⟩
  ·rfl
  ·exact absurd (.inr ⟨_,hv⟩) ho
  ·rename_i hu';subst h2;exact absurd (.inr ⟨_,hu'⟩) ho
  ·exact h.box_box u v b' ‹E.box u=_› hv
 ·rcases hr k b' hk with ⟨rfl,rfl⟩ | ⟨h1,hk⟩
  ·exact ho (.inl ⟨u,o',hu⟩)
  ·exact h.row_box u k b' o' hu hk
theorem StR.bindRow {t:Tg} {b o:Nat} (h:StR E w st tmps) (ht:E.row t=none):StR (E.bindRow t b o) w st tmps:=
 h.keep (fun _ h=>h) (fun _ _=>rfl) (fun u r hr=>⟨by simp only [Env.bindRow];rw [if_neg (fun e=>by subst e;rw [ht] at hr;cases hr)];exact hr,rfl⟩) (fun k b hb=>⟨hb,rfl⟩)
theorem StR.bindBox {t:Tg} {b:Nat} (h:StR E w st tmps) (ht:E.box t=none):StR (E.bindBox t b) w st tmps:=
 h.keep (fun _ h=>h) (fun _ _=>rfl) (fun u r hr=>⟨hr,rfl⟩) (fun k b' hb=>⟨by simp only [Env.bindBox];rw [if_neg (fun e=>by subst e;rw [ht] at hb;cases hb)];exact hb,rfl⟩)
end
end Go.Proofs.YtnmlihfpenjeiaaGreat.Abs
namespace Go.Proofs.YtnmlihfpenjeiaaGreat.Abs
open Go Go.RowKit
set_option linter.unusedVariables false
set_option linter.unusedSimpArgs false
structure Grew (w w':World) (o:Obj):Prop where
 os:w'.os=w.os
 tape:w'.tape=w.tape
 output:w'.output=w.output
 size:w'.heap.size=w.heap.size+1
 drawn:w.drawn≤w'.drawn
 old:∀b,b<w.heap.size→w'.heap[b]? =w.heap[b]?
 new:w'.heap[w.heap.size]? =some o
theorem Grew.alloc (w:World) (o:Obj):Grew w (w.alloc o) o:=
 ⟨rfl,rfl,rfl,by simp,Nat.le_refl _,fun b hb=>Below.heap_alloc w o b hb,by show (w.heap.push o)[w.heap.size]? =some o;simp⟩
theorem Grew.drew_alloc (w:World) (o:Obj):Grew w (w.drew.alloc o) o:=
 ⟨rfl,rfl,rfl,by show (w.heap.push o).size=_;simp,Nat.le_succ _,fun b hb=>Below.heap_alloc w o b hb,by show (w.heap.push o)[w.heap.size]? =some o;simp⟩
section
variable {E:Env} {w w':World} {st:St} {tmps:Array Value} {T:Tg}
theorem St.setBox_R {st:St} (h:StR E w st tmps) {k:Tg} {cs:List PV} {b:Nat} {o:Obj} {vs:List Value} (h1:E.box k=some b) (h2:w.heap[b]? =some o) (h3:Phys k o vs)
  (h5:VRs E w cs vs):StR E w (st.setBox k cs) tmps:=by
 refine ⟨h.tm,fun k' cs' hm=> ?_⟩
 simp only [St.setBox] at hm
 rcases List.mem_cons.1 hm with hm | hm
 ·cases hm;exact ⟨b,o,vs,h1,h2,h3,h5⟩
 ·exact h.bx k' cs' (zH3 hm).2
theorem zYf (c:Array Value):Unfz c (0,0):= .inl rfl
theorem zNK (hv:zAm E w):¬Own E w.heap.size:=fun h=>by have:=(hv.own_lt h).1;omega
theorem zMC (hv:zAm E w):¬E.prot w.heap.size:=fun h=>by have:=hv.prot_lt _ h;omega
theorem Own.bindRow {t:Tg} {b o x:Nat} (h:Own (E.bindRow t b o) x):x=b∨Own E x:=by
 rcases h with ⟨u,o',h⟩ | ⟨k,h⟩
 ·simp only [Env.bindRow] at h
  split at h
  ·simp at h;exact .inl h.1.symm
  ·exact .inr (.inl ⟨u,o',h⟩)
 ·exact .inr (.inr ⟨k,h⟩)
theorem Own.bindBox {t:Tg} {b x:Nat} (h:Own (E.bindBox t b) x):x=b∨Own E x:=by
 rcases h with ⟨u,o',h⟩ | ⟨k,h⟩
 ·exact .inr (.inl ⟨u,o',h⟩)
 ·simp only [Env.bindBox] at h
  split at h
  ·simp at h;exact .inl h.symm
  ·exact .inr (.inr ⟨k,h⟩)
theorem zL0 (hT:T.isUp=false) (hv:zAm E w) (hs:StR E w st tmps) {cs:List PV} {o:Obj} {vs:List Value} (hg:Grew w w' o) (h1:Phys T o vs) (hc:VRs (E.unbind T) w cs vs):
  zAm ((E.unbind T).bindBox T w.heap.size) w'∧StR ((E.unbind T).bindBox T w.heap.size) w' ((st.rebind T).setBox T cs) tmps∧Step E w ((E.unbind T).bindBox T w.heap.size) w'∧
   VR ((E.unbind T).bindBox T w.heap.size) w' (.ptr T 0) (boxV T w.heap.size 0):=by
 have hv1:=hv.unbind T
 have hs1:=hs.rebind hv T
 have hv2:zAm (E.unbind T) w':=hv1.grow (by have:=hg.size;omega)
 have hs2:=hs1.grow hv1 hg.old
 have hn:(E.unbind T).box T=none:=by simp [Env.unbind,hT]
 have hv3:=hv2.bindBox (b:=w.heap.size) hn (zNK hv1) (zMC hv1) (by have:=hg.size;omega)
 have hb:((E.unbind T).bindBox T w.heap.size).box T=some w.heap.size:=by simp [Env.bindBox]
 refine ⟨hv3, ?_, ?_,by simp only [VR];exact ⟨_,hb,rfl⟩⟩
 ·refine St.setBox_R (hs2.bindBox hn) hb hg.new h1 ?_
  refine VRs.keep (E:=E.unbind T) (w:=w) cs _ ⟨fun _ h=>h,fun b hb=>hg.old b (hv1.prot_lt b hb),fun t _ r hr=>⟨hr,hg.old _ (hv1.row_lt t r.1 r.2 hr).1⟩,fun t _ b hb=> ?_⟩ hc
  simp only [Env.bindBox]
  rw [if_neg (fun e=>by subst e;rw [hn] at hb;cases hb)];exact hb
 ·refine ⟨hg.os,hg.tape,hg.output,by have:=hg.size;omega,hg.drawn,fun b hb _=>hg.old b hb,fun b hb=> ?_,fun b hb=>hb,fun b hb=> .inl hb,fun t b hb=> ?_⟩
  ·rcases hb.bindBox with rfl | hb
   ·exact .inr (Nat.le_refl _)
   ·exact .inl hb.unbind
  ·simp only [Env.bindBox]
   rw [if_neg (fun e=>by subst e;simp [Tg.isUp] at hT)]
   exact Env.unbind_box.2 ⟨.inr rfl,hb⟩
theorem zRf (hT:T.isUp=false) (hM:T.isM=false) (hv:zAm E w) (hs:StR E w st tmps) {cs:List PV} {c:Array Value} {el:TypeId} (hg:Grew w w' (.cells c el (0,0))) (h1:OneC c.toList) (hc:VRs (E.unbind T) w cs c.toList):
  zAm ((E.unbind T).bindBox T w.heap.size) w'∧StR ((E.unbind T).bindBox T w.heap.size) w' ((st.rebind T).setBox T cs) tmps∧Step E w ((E.unbind T).bindBox T w.heap.size) w'∧
   VR ((E.unbind T).bindBox T w.heap.size) w' (.ptr T 0) (.pointer (some ⟨w.heap.size,0,none⟩)):=by
 have:=zL0 hT hv hs hg (Phys.of hM (zYf c) h1) hc
 rwa [zFg hM] at this
theorem zPo {c:Array Value} {el:TypeId} {fr:Nat×Nat} (hfr:Unfz c fr) (hv:zAm E w) (hs:StR E w st tmps) (hg:Grew w w' (.cells c el fr)) {sz cap:Nat} {es:List D} {vs rest:List Value}
  (hcap:es.length≤cap) (hsz:cap*sz≤c.size) (hvs:∀u∈vs,u.cells.size=sz) (hc:c.toList=flat vs++rest) (hd:DRs E.prot w es vs):
  zAm ((E.unbind T).bindRow T w.heap.size 0) w'∧StR ((E.unbind T).bindRow T w.heap.size 0) w' (st.rebind T) tmps∧Step E w ((E.unbind T).bindRow T w.heap.size 0) w'∧
   VR ((E.unbind T).bindRow T w.heap.size 0) w' (.sl T sz 0 es) (.slice (some ⟨w.heap.size,0,none⟩) es.length cap):=by
 have hv1:=hv.unbind T
 have hs1:=hs.rebind hv T
 have hv2:zAm (E.unbind T) w':=hv1.grow (by have:=hg.size;omega)
 have hs2:=hs1.grow hv1 hg.old
 have hn:(E.unbind T).row T=none:=by simp [Env.unbind]
 have hv3:=hv2.bindRow (b:=w.heap.size) (o:=0) hn (zNK hv1) (zMC hv1) (by have:=hg.size;omega)
 have hb:((E.unbind T).bindRow T w.heap.size 0).row T=some (w.heap.size,0):=by simp [Env.bindRow]
 refine ⟨hv3,hs2.bindRow hn, ?_, ?_⟩
 ·refine ⟨hg.os,hg.tape,hg.output,by have:=hg.size;omega,hg.drawn,fun b hb _=>hg.old b hb,fun b hb=> ?_,fun b hb=>hb,fun b hb=> .inl hb,fun t b hb=>Env.unbind_box.2 ⟨.inr rfl,hb⟩⟩
  rcases hb.bindRow with rfl | hb
  ·exact .inr (Nat.le_refl _)
  ·exact .inl hb.unbind
 ·simp only [VR]
  refine .inr ⟨w.heap.size,0,cap,c,el,fr,vs,hb,by simp,hcap,hg.new,hfr,by simpa using hsz,hvs, ?_,DRs.mono (fun _ h=>h) (fun b hb=>hg.old b (hv1.prot_lt b hb)) _ _ hd⟩
  intro i x hx
  have hi:=(List.getElem?_eq_some_iff.1 hx).1
  simp only [World.cell?,hg.new]
  have:c.toList[i]? =some x:=by rw [hc,List.getElem?_append_left hi];exact hx
  simpa using this
theorem zKq (hv:zAm E w) (hs:StR E w st tmps) {c:Array Value} {el:TypeId} (hg:Grew w w' (.cells c el (0,0))) {sz cap:Nat} {es:List D} {vs rest:List Value}
 (hcap:es.length≤cap) (hsz:cap*sz≤c.size) (hvs:∀u∈vs,u.cells.size=sz) (hc:c.toList=flat vs++rest) (hd:DRs E.prot w es vs):
 zAm ((E.unbind T).bindRow T w.heap.size 0) w'∧StR ((E.unbind T).bindRow T w.heap.size 0) w' (st.rebind T) tmps∧Step E w ((E.unbind T).bindRow T w.heap.size 0) w'∧
  VR ((E.unbind T).bindRow T w.heap.size 0) w' (.sl T sz 0 es) (.slice (some ⟨w.heap.size,0,none⟩) es.length cap):=zPo (zYf c) hv hs hg hcap hsz hvs hc hd
end
end Go.Proofs.YtnmlihfpenjeiaaGreat.Abs
namespace Go.Proofs.YtnmlihfpenjeiaaGreat.Abs
open Go Go.RowKit
set_option linter.unusedVariables false
set_option linter.unusedSimpArgs false
def setBlk (w:World) (b:Nat) (o:Obj):World:={ w with heap:=w.heap.setIfInBounds b o }
def laid (c:Array Value) (o:Nat) (l:List Value):Array Value:=(c.toList.take o++l++c.toList.drop (o+l.length)).toArray
theorem zKx {c:Array Value} {o:Nat} {l:List Value} (h:o+l.length≤c.size):(laid c o l).size=c.size:=by
 simp [laid];omega
theorem zXC (c:Array Value) (o:Nat):laid c o []=c:=by
 simp [laid]
theorem zWm {c:Array Value} {o:Nat} {v:Value} {l:List Value} (h:o+(l.length+1)≤c.size):laid (c.setIfInBounds o v) (o+1) l=laid c o (v::l):=by
 unfold laid
 congr 1
 apply List.ext_getElem?
 intro i
 simp only [Array.toList_setIfInBounds]
 have hk:o<c.toList.length:=by simp;omega
 simp only [List.getElem?_append,List.getElem?_take,List.getElem?_drop,List.getElem?_set,List.length_append,List.length_take,List.length_set,List.length_cons]
 have hc:c.toList.length=c.size:=by simp
 by_cases h1:i<o
 ·have e1:i<min (o+1) c.toList.length:=by omega
  have e2:i<min o c.toList.length:=by omega
  have e4:¬(o=i):=by omega
  grind
 ·by_cases h2:i=o
  ·subst h2;grind
  ·grind
section
variable {P:Program} {w:World}
theorem zAQ (w:World) (b:Nat) (o:Obj) (k:Nat):(setBlk w b o).heap[k]? =if k=b then (if b<w.heap.size then some o else none) else w.heap[k]? :=by
 simp only [setBlk,Array.getElem?_setIfInBounds]
 split
 ·rename_i h;subst h;simp
 ·rename_i h;rw [if_neg (fun e=>h e.symm)]
theorem zFT (w:World) (b:Nat) (o:Obj):(setBlk w b o).heap.size=w.heap.size:=by simp [setBlk]
theorem zUg {b o:Nat} {c:Array Value} {el:TypeId} {fr:Nat×Nat} (h:w.heap[b]? =some (.cells c el fr)) (v:Value):
  w.setCell ⟨b,o,none⟩ v=setBlk w b (.cells (c.setIfInBounds o v) el fr):=by
 simp only [World.setCell,setBlk]
 congr 1
 apply Array.ext_getElem?
 intro i
 rw [Array.getElem?_modify,Array.getElem?_setIfInBounds]
 have hb:=(Array.getElem?_eq_some_iff.1 h).1
 by_cases hi:b=i
 ·subst hi
  have:w.heap[b]= .cells c el fr:=by simpa [Array.getElem?_eq_getElem hb] using h
  simp [hb,this]
 ·simp [hi]
theorem zRA (b:Nat) (o o':Obj):setBlk (setBlk w b o) b o'=setBlk w b o':=by
 simp [setBlk]
theorem zVo {b o:Nat} {c:Array Value} {el:TypeId} {fr:Nat×Nat} (h:w.heap[b]? =some (.cells c el fr)) (hf:Unfz c fr) (ho:o<c.size) {v:Value} (hv:v.oneCell'=true):
  (store ⟨b,o,none⟩ v).run P w= .ok () (setBlk w b (.cells (c.setIfInBounds o v) el fr)):=by
 rw [run_store P w ⟨b,o,none⟩ v .plain hv]
 have h1:w.cell? ⟨b,o,none⟩=some c[o]:=by simp [World.cell?,h,ho]
 have h2:w.frozen? ⟨b,o,none⟩=false:=by
  simp only [World.frozen?,h,Bool.and_eq_false_iff,decide_eq_false_iff_not]
  rcases hf with hf | hf
  ·omega
  ·left;omega
 simp [stored,h1,h2,zUg h]
theorem zF1 (b:Nat) (el:TypeId) (fr:Nat×Nat):∀(l:List Value) (i o:Nat) (c:Array Value) (w:World),w.heap[b]? =some (.cells c el fr)→Unfz c fr→o+i+l.length≤c.size→OneC l→
  (storeCells ⟨b,o,none⟩ l i).run P w= .ok () (setBlk w b (.cells (laid c (o+i) l) el fr))
 | [],i,o,c,w,h,hf,ho,h1=>by
  simp only [storeCells,Sem.run_pure,zXC]
  congr 1
  simp only [setBlk]
  have hb:=(Array.getElem?_eq_some_iff.1 h).1
  have:w.heap.setIfInBounds b (.cells c el fr)=w.heap:=by
   apply Array.ext_getElem?
   intro k
   rw [Array.getElem?_setIfInBounds]
   split
   ·rename_i hk;subst hk;exact h.symm
   ·rfl
  rw [this]
 | v::l,i,o,c,w,h,hf,ho,h1=>by
  simp only [List.length_cons] at ho
  simp only [storeCells,Sem.run_bind,Addr.add_mk]
  rw [zVo h hf (by omega) (h1 v (by simp))]
  simp only [Result.andThen_ok]
  have hb:=(Array.getElem?_eq_some_iff.1 h).1
  rw [zF1 b el fr l (i+1) o (c.setIfInBounds (o+i) v) _ (by rw [zAQ];simp [hb]) (by simpa [Unfz] using hf) (by simp;omega) (fun x hx=>h1 x (by simp [hx]))]
  rw [zRA,←Nat.add_assoc,zWm (by omega)]
end
section
variable {E:Env} {w:World} {st:St} {tmps:Array Value}
theorem zHH (hv:zAm E w) {b:Nat} (o:Obj) {ts:List Tg} (hp:¬E.prot b) (hr:∀t∈ts,∀x y,E.row t=some (x,y)→x≠b):zHL E E w (setBlk w b o) ts:=
 ⟨fun _ h=>h,fun x hx=>by rw [zAQ];rw [if_neg (fun e=>by subst e;exact hp hx)],fun t ht r h=>⟨h,by rw [zAQ,if_neg (hr t ht r.1 r.2 h)]⟩,fun _ _ _ h=>h⟩
theorem zAm.setBlk (hv:zAm E w) (b:Nat) (o:Obj):zAm E (setBlk w b o):=hv.grow (by rw [zFT];exact Nat.le_refl _)
theorem Step.setBlk (hv:zAm E w) {b:Nat} (o:Obj) (hb:Own E b):Step E w E (setBlk w b o):=
 ⟨rfl,rfl,rfl,by rw [zFT];exact Nat.le_refl _,Nat.le_refl _,fun k hk ho=>by rw [zAQ];rw [if_neg (fun e=>by subst e;exact ho hb)],fun _ h=> .inl h,fun _ h=>h,fun _ h=> .inl h,fun _ _ h=>h⟩
theorem zJl (hv:zAm E w) (hs:StR E w st tmps) {k:Tg} {b:Nat} {o:Obj} {vs:List Value} (hk:E.box k=some b) {cs:List PV} (hP:Phys k o vs)
  (hc:VRs E w cs vs) (hb:b<w.heap.size):StR E (setBlk w b o) (st.setBox k cs) tmps:=by
 have keep:∀p v,VR E w p v→VR E (setBlk w b o) p v:=fun p v h=>
  VR.keep p v (zHH hv _ (hv.box_lt k b hk).2 (fun t _ x y hr e=>by subst e;exact hv.row_box t k x y hr hk)) h
 have keeps:∀p v,VRs E w p v→VRs E (setBlk w b o) p v:=fun p v h=>
  VRs.keep p v (zHH hv _ (hv.box_lt k b hk).2 (fun t _ x y hr e=>by subst e;exact hv.row_box t k x y hr hk)) h
 refine ⟨fun d v hm=> ?_,fun k' cs' hm=> ?_⟩
 ·obtain ⟨u,h2,h3⟩:=hs.tm d v hm
  exact ⟨u,h2,keep _ _ h3⟩
 ·simp only [St.setBox] at hm
  rcases List.mem_cons.1 hm with hm | hm
  ·cases hm
   exact ⟨b,o,vs,hk,by rw [zAQ];simp [hb],hP,keeps _ _ hc⟩
  ·obtain ⟨hne,hm⟩:=zH3 hm
   obtain ⟨b',o',vs',h2,h3,h4,h6⟩:=hs.bx k' cs' hm
   exact ⟨b',o',vs',h2,by rw [zAQ,if_neg (fun e=>by subst e;exact hne (hv.box_box _ _ _ h2 hk))];exact h3,h4,keeps _ _ h6⟩
theorem zWE (hv:zAm E w) (hs:StR E w st tmps) {k:Tg} (hM:k.isM=false) {b:Nat} {c:Array Value} {el:TypeId} {fr:Nat×Nat} (hk:E.box k=some b) {cs:List PV} (hf:Unfz c fr) (h1:OneC c.toList)
 (hc:VRs E w cs c.toList) (hb:b<w.heap.size):StR E (setBlk w b (.cells c el fr)) (st.setBox k cs) tmps:=zJl hv hs hk (Phys.of hM hf h1) hc hb
def updF (t:Tg) (sz idx:Nat) (g:List D→Nat→List D):PV→PV
 | .sl u s off es=>if u=t then (if s=sz then .sl u s off (if off≤idx then g es (idx-off) else es) else .unk) else .sl u s off es
 | .ep u s i f e=>if u=t then .ep u s i f none else .ep u s i f e
 | p=>p
def zIb (f:Nat) (x:D):D→D
 | .agg cs=> .agg (cs.take f++x.cells++cs.drop (f+x.sz))
 | y=>x.cells.headD y
def zEP (f:Option Nat) (x:D) (es:List D) (i:Nat):List D:=
 match f with
 | none=>es.set i x
 | some f=>es.modify i (zIb f x)
def zDQ (u:List Value) (f:Nat) (l:List Value):List Value:=u.take f++l++u.drop (f+l.length)
theorem zS2 {u:List Value} {f:Nat} {l:List Value} (h:f+l.length≤u.length):(zDQ u f l).length=u.length:=by
 simp [zDQ];omega
theorem zW0 {l u r v:List Value} {f:Nat} (h:f+v.length≤u.length):zDQ (l++u++r) (l.length+f) v=l++zDQ u f v++r:=by
 unfold zDQ
 apply List.ext_getElem?
 intro i
 simp only [List.getElem?_append,List.getElem?_take,List.getElem?_drop,List.length_append,List.length_take,List.length_drop]
 grind
theorem zXY {pr:Nat→Prop} {e x:D} {u v:Value} {f:Nat} (he:DR pr w e u) (hx:DR pr w x v) (hf:f+x.sz≤e.sz) (h1:0<x.sz):
  ∃u',DR pr w (zIb f x e) u'∧u'.cells.toList=zDQ u.cells.toList f v.cells.toList:=by
 have hxs:=hx.size
 have hxc:=hx.cells
 have hes:=he.size
 have non:e.sz=1→u.cells.size=1→(∃c cx,v.cells.toList=[c]∧x.cells=[cx]∧DR pr w cx c∧f=0):=by
  intro h2 h3
  have hl:v.cells.toList.length=1:=by simp;omega
  obtain ⟨c,hc⟩:=List.length_eq_one_iff.1 hl
  rw [hc] at hxc
  have hl2:=hxc.length
  obtain ⟨cx,hcx⟩:=List.length_eq_one_iff.1 (show x.cells.length=1 by simpa using hl2.symm)
  rw [hcx] at hxc
  simp only [DRs] at hxc
  obtain ⟨c',us,h4,h5,rfl⟩:=hxc
  simp at h4;subst h4
  exact ⟨c,cx,hc,hcx,h5,by omega⟩
 have fin:(∀cs,e≠ .agg cs)→∃u',DR pr w (zIb f x e) u'∧u'.cells.toList=zDQ u.cells.toList f v.cells.toList:=by
  intro hne
  have h2:e.sz=1:=by cases e<;>first | rfl | exact absurd rfl (hne _)
  obtain ⟨c,cx,h3,h4,h5,h6⟩:=non h2 (by omega)
  subst h6
  have h7:zIb 0 x e=cx:=by cases e<;>simp [zIb,h4]<;>exact absurd rfl (hne _)
  refine ⟨c,by rw [h7];exact h5, ?_⟩
  have h8:c.cells= #[c]:=by
   have:=hx.one c (by rw [h3];simp)
   cases c<;>simp [Value.oneCell'] at this<;>rfl
  have h9:u.cells.toList.length=1:=by simp;omega
  rw [h3,h8]
  simp only [zDQ,List.take_zero,List.nil_append,Nat.zero_add,List.length_cons,List.length_nil]
  rw [List.drop_of_length_le (by omega)];simp
 cases e with
 | agg cs=>
  simp only [DR] at he
  obtain ⟨arr,rfl,h0,h2⟩:=he
  simp only [D.sz] at hf
  have hl:=h2.length
  refine ⟨.agg (zDQ arr.toList f v.cells.toList).toArray, ?_,by simp [Value.cells]⟩
  simp only [zIb,DR]
  refine ⟨_,rfl, ?_, ?_⟩
  ·intro c hc
   simp only [zDQ,List.mem_append] at hc
   rcases hc with (hc | hc) | hc
   ·exact h0 c (List.mem_of_mem_take hc)
   ·exact hx.one c hc
   ·exact h0 c (List.mem_of_mem_drop hc)
  ·simp only [zDQ]
   refine DRs.append (DRs.append (DRs.take _ h2) hxc) ?_
   rw [show v.cells.toList.length=x.sz by simp [hxs]]
   exact DRs.drop _ h2
 | _=>exact fin (by intro cs h;cases h)
theorem zXB {vs:List Value} {sz:Nat} (h:∀u∈vs,u.cells.size=sz) {j:Nat} {u u':Value} (hj:vs[j]? =some u) {f:Nat} {l:List Value} (hf:f+l.length≤sz)
  (hu:u'.cells.toList=zDQ u.cells.toList f l):flat (vs.set j u')=zDQ (flat vs) (j*sz+f) l:=by
 obtain ⟨hlt,hje⟩:=List.getElem?_eq_some_iff.1 hj
 have e1:vs=vs.take j++u::vs.drop (j+1):=by
  rw [←hje,←List.drop_eq_getElem_cons hlt,List.take_append_drop]
 have e2:vs.set j u'=vs.take j++u'::vs.drop (j+1):=by
  rw [List.set_eq_take_append_cons_drop,if_pos hlt]
 have e3:flat vs=flat (vs.take j)++u.cells.toList++flat (vs.drop (j+1)):=by
  conv=>lhs;rw [e1]
  simp [flat]
 have e4:flat (vs.set j u')=flat (vs.take j)++u'.cells.toList++flat (vs.drop (j+1)):=by
  rw [e2];simp [flat]
 have hl:(flat (vs.take j)).length=j*sz:=by
  rw [zBe (sz:=sz) fun x hx=>h x (List.mem_of_mem_take hx),List.length_take,Nat.min_eq_left (by omega)]
 rw [e3,e4,hu,←hl]
 rw [zW0 (by have:=h u (List.mem_of_getElem? hj);simp;omega)]
theorem zRo {b q p:Nat} {c:Array Value} {el:TypeId} {fr:Nat×Nat} {F l:List Value} (hb:w.heap[b]? =some (.cells c el fr)) (hF:zAC w b q F) (hp:p+l.length≤F.length):
  zAC (setBlk w b (.cells (laid c (q+p) l) el fr)) b q (zDQ F p l):=by
 intro i x hx
 have hbs:=(Array.getElem?_eq_some_iff.1 hb).1
 have hcc:∀i y,F[i]? =some y→c.toList[q+i]? =some y:=by
  intro i y hy
  have:=hF i y hy
  simp only [World.cell?,hb] at this
  simpa using this
 have hsz:∀i,i<F.length→q+i<c.toList.length:=fun i hi=>(List.getElem?_eq_some_iff.1 (hcc i _ (List.getElem?_eq_getElem hi))).1
 simp only [World.cell?,zAQ,if_true,hbs]
 simp only [laid,zDQ,List.getElem?_append,List.getElem?_take,List.getElem?_drop,List.length_append,List.length_take] at hx⊢
 have hil:i<F.length∨F.length≤i:=Nat.lt_or_ge i F.length
 have h0:F.length≠0→q+(F.length-1)<c.toList.length:=fun h=>hsz _ (by omega)
 simp only [Option.isSome_none,Bool.false_eq_true,if_false,List.getElem?_toArray,List.getElem?_append,List.getElem?_take,List.getElem?_drop,List.length_append,List.length_take]
 have:=hcc i
 have:=hcc (p+l.length+(i-(min p F.length+l.length)))
 grind
theorem zHV {b q p:Nat} {c:Array Value} {el:TypeId} {fr:Nat×Nat} {F l:List Value} (hb:w.heap[b]? =some (.cells c el fr)) (hF:zAC w b q F) (hp:p+l.length≤q∨q+F.length≤p) (hc:p+l.length≤c.size):
  zAC (setBlk w b (.cells (laid c p l) el fr)) b q F:=by
 intro i x hx
 have hbs:=(Array.getElem?_eq_some_iff.1 hb).1
 have h1:=hF i x hx
 have hi:=(List.getElem?_eq_some_iff.1 hx).1
 simp only [World.cell?,hb] at h1
 simp only [World.cell?,zAQ,if_true,hbs]
 simp only [Option.isSome_none,Bool.false_eq_true,if_false] at h1⊢
 rw [←Array.getElem?_toList] at h1
 simp only [laid,List.getElem?_toArray,List.getElem?_append,List.getElem?_take,List.getElem?_drop,List.length_append,List.length_take]
 have hcs:c.toList.length=c.size:=by simp
 grind
end
end Go.Proofs.YtnmlihfpenjeiaaGreat.Abs
namespace Go.Proofs.YtnmlihfpenjeiaaGreat.Abs
open Go Go.RowKit
set_option linter.unusedVariables false
set_option linter.unusedSimpArgs false
section
variable {E:Env} {w:World} {st:St} {tmps:Array Value}
theorem zLG {α:Type} (g:α→α):∀(l:List α) (i:Nat),l.modify i g=(l[i]?.map fun x=>l.set i (g x)).getD l
 | [],i=>by simp
 | a::l,0=>by simp
 | a::l,i+1=>by
  have ih:=zLG g l i
  simp only [List.modify_succ_cons,ih,List.getElem?_cons_succ]
  cases l[i]? <;>simp
theorem zWO (hv:zAm E w) {t:Tg} {b o:Nat} (ht:E.row t=some (b,o)) {c:Array Value} {el:TypeId} {fr:Nat×Nat} (hb:w.heap[b]? =some (.cells c el fr)) {sz idx:Nat} {f:Option Nat}
  {x:D} {v:Value} (hx:DR E.prot w x v) (hf:f.getD 0+x.sz≤sz) (hw:f=none→x.sz=sz) (hz:0<x.sz) (hcs:o+idx*sz+sz≤c.size)
  {p:PV} {u:Value} (hl:p.leaf=true) (h:VR E w p u):
  VR E (setBlk w b (.cells (laid c (o+idx*sz+f.getD 0) v.cells.toList) el fr)) (updF t sz idx (zEP f x) p) u:=by
 have hxs:=hx.size
 have hvl:v.cells.toList.length=x.sz:=by simp [hxs]
 have hbs:=(Array.getElem?_eq_some_iff.1 hb).1
 have hpb:¬E.prot b:=(hv.row_lt t b o ht).2
 have hprot:∀k,E.prot k→(setBlk w b (.cells (laid c (o+idx*sz+f.getD 0) v.cells.toList) el fr)).heap[k]? =w.heap[k]? :=fun k hk=>by
  rw [zAQ,if_neg (fun e=>by subst e;exact hpb hk)]
 have hk:∀t',t'≠t→∀ob,zHL E E w (setBlk w b ob) [t']:=fun t' hne ob=>zHH hv ob hpb (fun y hy x' y' hr e=>by
  simp at hy;subst hy;subst e;exact hne (hv.row_row _ _ _ _ _ hr ht))
 have hsz:=zKx (c:=c) (o:=o+idx*sz+f.getD 0) (l:=v.cells.toList) (by omega)
 cases p with
 | sl t' s off es=>
  simp only [updF]
  split
  ·rename_i he;subst he
   split
   ·rename_i he;subst he
    have h':=h
    simp only [VR] at h
    rcases h with ⟨rfl,a,rfl⟩ | ⟨b',o',cap,cc,el',fr',vs,k1,rfl,k3,k4,k5,k6,k7,k8,k9⟩
    ·simp only [VR]
     refine .inl ⟨?_,a,rfl⟩
     split
     ·cases f<;>simp [zEP]
     ·rfl
    ·rw [ht] at k1;cases k1
     rw [hb] at k4;cases k4
     have hlen:=k9.length
     have hF:=zBe k7
     have hE:∀(es':List D) (vs':List Value),es'.length=es.length→(∀u∈vs',u.cells.size=s)→zAC (setBlk w b (.cells (laid c (o+idx*s+f.getD 0) v.cells.toList) el fr)) b (o+off*s) (flat vs')→
       DRs E.prot w es' vs'→VR E (setBlk w b (.cells (laid c (o+idx*s+f.getD 0) v.cells.toList) el fr)) (.sl t' s off es') (.slice (some ⟨b,o+off*s,none⟩) es.length cap):=by
      intro es' vs' g1 g2 g3 g4
      simp only [VR]
      refine .inr ⟨b,o,cap,laid c (o+idx*s+f.getD 0) v.cells.toList,el,fr,vs',ht,by rw [g1],by omega,by rw [zAQ];simp only [if_true,hbs], ?_, ?_,g2,g3,DRs.mono (fun _ h=>h) hprot _ _ g4⟩
      ·rcases k5 with k5 | k5
       ·exact .inl k5
       ·exact .inr (by rw [hsz];exact k5)
      ·rw [hsz];exact k6
     by_cases hoff:off≤idx
     ·rw [if_pos hoff]
      by_cases hj:idx-off<es.length
      ·obtain ⟨y,hy1,hy2⟩:=k9.at hj
       have hys:y.cells.size=s:=k7 y (List.mem_of_getElem? hy1)
       have hes:(zFE es (idx-off)).sz=s:=by rw [←hy2.size];exact hys
       have upd:∃e' u',DR E.prot w e' u'∧u'.cells.toList=zDQ y.cells.toList (f.getD 0) v.cells.toList∧zEP f x es (idx-off)=es.set (idx-off) e':=by
        cases f with
        | none=>
         refine ⟨x,v,hx, ?_,rfl⟩
         simp only [Option.getD_none,zDQ,List.take_zero,List.nil_append,Nat.zero_add]
         rw [List.drop_of_length_le (by rw [hvl,hw rfl];simp [hys]),List.append_nil]
        | some g=>
         obtain ⟨u',g1,g2⟩:=zXY hy2 hx (f:=g) (by rw [hes];simpa using hf) hz
         refine ⟨_,u',g1,g2, ?_⟩
         simp only [zEP]
         rw [zLG,zOv hj];simp
       obtain ⟨e',u',g1,g2,g3⟩:=upd
       rw [g3]
       have hset:=zXB k7 hy1 (f:=f.getD 0) (l:=v.cells.toList) (u':=u') (by omega) g2
       have hpos:o+idx*s+f.getD 0=(o+off*s)+((idx-off)*s+f.getD 0):=by
        have:idx*s=off*s+(idx-off)*s:=by rw [←Nat.add_mul];congr 1;omega
        omega
       have hfit:(idx-off)*s+f.getD 0+v.cells.toList.length≤(flat vs).length:=by
        rw [hF,hlen]
        have:=Nat.mul_le_mul_right s (show idx-off+1≤es.length by omega)
        rw [Nat.add_mul,Nat.one_mul] at this;omega
       refine hE _ (vs.set (idx-off) u') (by simp) ?_ ?_ ?_
       ·intro z hz'
        rcases List.mem_or_eq_of_mem_set hz' with hz' | rfl
        ·exact k7 z hz'
        ·have:=congrArg List.length g2
         rw [zS2 (by simp;omega)] at this
         simpa [hys] using this
       ·rw [hset,hpos]
        exact zRo hb k8 hfit
       ·have hd:∀(es:List D) (vs:List Value) (j:Nat),DRs E.prot w es vs→DRs E.prot w (es.set j e') (vs.set j u'):=by
         intro es
         induction es with
         | nil=>intro vs j h;simp only [DRs] at h;subst h;simp [DRs]
         | cons a as ih=>
          intro vs j h
          simp only [DRs] at h
          obtain ⟨q,qs,rfl,q1,q2⟩:=h
          cases j with
          | zero=>simp only [List.set_cons_zero,DRs];exact ⟨u',qs,rfl,g1,q2⟩
          | succ j=>simp only [List.set_cons_succ,DRs];exact ⟨q,_,rfl,q1,ih qs j q2⟩
        exact hd es vs _ k9
      ·have hno:zEP f x es (idx-off)=es:=by
        cases f with
        | none=>simp only [zEP];exact List.set_eq_of_length_le (by omega)
        | some g=>simp only [zEP];rw [zLG,List.getElem?_eq_none (by omega)];simp
       rw [hno]
       refine hE es vs rfl k7 (zHV hb k8 (.inr ?_) (by omega)) k9
       rw [hF,hlen]
       have:=Nat.mul_le_mul_right s (show off+es.length≤idx by omega)
       rw [Nat.add_mul] at this;omega
     ·rw [if_neg hoff]
      refine hE es vs rfl k7 (zHV hb k8 (.inl ?_) (by omega)) k9
      have:=Nat.mul_le_mul_right s (show idx+1≤off by omega)
      rw [Nat.add_mul,Nat.one_mul] at this;omega
   ·simp [VR]
  ·rename_i hne
   exact VR.keep _ _ (hk t' hne _) h
 | ptr k off=>
  simp only [updF]
  simp only [VR] at h⊢
  exact h
 | ep t' s i g e=>
  simp only [updF]
  split
  ·rename_i he;subst he
   simp only [VR] at h⊢
   obtain ⟨b',o',cc,el',fr',k1,k2,k3,k4,k5,k6⟩:=h
   rw [ht] at k1;cases k1
   rw [hb] at k3;cases k3
   refine ⟨b,o,laid c (o+idx*sz+f.getD 0) v.cells.toList,el,fr,ht,k2,by rw [zAQ];simp only [if_true,hbs], ?_,by rw [hsz];exact k5,fun _ h=>by cases h⟩
   rcases k4 with k4 | k4
   ·exact .inl k4
   ·exact .inr (by rw [hsz];exact k4)
  ·rename_i hne
   exact VR.keep _ _ (hk t' hne _) h
 | _=>simp [PV.leaf] at hl
end
end Go.Proofs.YtnmlihfpenjeiaaGreat.Abs
namespace Go.Proofs.YtnmlihfpenjeiaaGreat.Abs
open Go Go.RowKit
set_option linter.unusedVariables false
set_option linter.unusedSimpArgs false
def cpyE (ys:List D) (n:Nat) (es:List D):List D:=ys.take (min n es.length)++es.drop (min n ys.length)
def cpyF (t:Tg) (sz off n:Nat) (ys:List D):PV→PV
 | .sl u s o es=>if u=t then (if s=sz∧o=off then .sl u s o (cpyE ys n es) else .unk) else .sl u s o es
 | .ep u s i f e=>if u=t then .ep u s i f none else .ep u s i f e
 | p=>p
section
variable {E:Env} {w:World} {st:St} {tmps:Array Value}
theorem zQe {b p:Nat} {c:Array Value} {el:TypeId} {fr:Nat×Nat} {l:List Value} (hb:b<w.heap.size) (hp:p+l.length≤c.size):zAC (setBlk w b (.cells (laid c p l) el fr)) b p l:=by
 intro i x hx
 have hi:=(List.getElem?_eq_some_iff.1 hx).1
 simp only [World.cell?,zAQ,if_true,hb]
 simp only [Option.isSome_none,Bool.false_eq_true,if_false,laid,List.getElem?_toArray,List.getElem?_append,List.getElem?_take,List.getElem?_drop,List.length_append,List.length_take]
 have hcs:c.toList.length=c.size:=by simp
 grind
theorem zOZ {t:Tg} {sz off:Nat} {ys:List D} {p:PV} {u:Value} (hl:p.leaf=true) (h:VR E w p u):VR E w (cpyF t sz off 0 ys p) u:=by
 cases p with
 | sl u' s o es=>
  simp only [cpyF]
  split
  ·split
   ·simpa [cpyE] using h
   ·simp [VR]
  ·exact h
 | ep u' s i f e=>
  simp only [cpyF]
  split
  ·simp only [VR] at h⊢
   obtain ⟨b,o,c,el,fr,h1,h2,h3,hf,h4,h5⟩:=h
   exact ⟨b,o,c,el,fr,h1,h2,h3,hf,h4,fun _ h=>by cases h⟩
  ·exact h
 | ptr k o=>exact h
 | _=>simp [PV.leaf] at hl
theorem zRg (hv:zAm E w) {t:Tg} {b o:Nat} (ht:E.row t=some (b,o)) {c:Array Value} {el:TypeId} {fr:Nat×Nat} (hb:w.heap[b]? =some (.cells c el fr)) {sz off n:Nat} {ys:List D} {yvs:List Value}
  (hy:DRs E.prot w ys yvs) (hysz:∀u∈yvs,u.cells.size=sz) (hcs:o+off*sz+n*sz≤c.size)
  {p:PV} {u:Value} (hl:p.leaf=true) (h:VR E w p u):
  VR E (setBlk w b (.cells (laid c (o+off*sz) (flat (yvs.take (min n ys.length)))) el fr)) (cpyF t sz off n ys p) u:=by
 have hylen:=hy.length
 have hk:(flat (yvs.take (min n ys.length))).length=min n ys.length*sz:=by
  rw [zBe fun u hu=>hysz u (List.mem_of_mem_take hu),List.length_take,hylen,Nat.min_assoc,Nat.min_self]
 have hfit:o+off*sz+(flat (yvs.take (min n ys.length))).length≤c.size:=by
  rw [hk];have:=Nat.mul_le_mul_right sz (Nat.min_le_left n ys.length);omega
 have hbs:=(Array.getElem?_eq_some_iff.1 hb).1
 have hpb:¬E.prot b:=(hv.row_lt t b o ht).2
 have hprot:∀ob k,E.prot k→(setBlk w b ob).heap[k]? =w.heap[k]? :=fun ob k hk=>by
  rw [zAQ,if_neg (fun e=>by subst e;exact hpb hk)]
 have hkk:∀t',t'≠t→∀ob,zHL E E w (setBlk w b ob) [t']:=fun t' hne ob=>zHH hv ob hpb (fun y hy x' y' hr e=>by
  simp at hy;subst hy;subst e;exact hne (hv.row_row _ _ _ _ _ hr ht))
 have hsz:=zKx (c:=c) hfit
 have unfz:Unfz c fr→Unfz (laid c (o+off*sz) (flat (yvs.take (min n ys.length)))) fr:=by
  rintro (h | h)
  ·exact .inl h
  ·exact .inr (by rw [hsz];exact h)
 cases p with
 | sl t' s o' es=>
  simp only [cpyF]
  split
  ·rename_i he;subst he
   split
   ·rename_i he;obtain ⟨rfl,rfl⟩:=he
    simp only [VR] at h
    rcases h with ⟨rfl,a,rfl⟩ | ⟨b',o2,cap,cc,el',fr',vs,k1,rfl,k3,k4,k5,k6,k7,k8,k9⟩
    ·simp only [VR]
     exact .inl ⟨by simp [cpyE],a,rfl⟩
    ·rw [ht] at k1;cases k1
     rw [hb] at k4;cases k4
     have hlen:=k9.length
     have hE:(cpyE ys n es).length=es.length:=by
      simp only [cpyE,List.length_append,List.length_take,List.length_drop];omega
     simp only [VR]
     refine .inr ⟨b,o,cap,_,el,fr,yvs.take (min n es.length)++vs.drop (min n ys.length),ht,by rw [hE],by omega,by rw [zAQ];simp only [if_true,hbs],unfz k5,by rw [hsz];exact k6, ?_, ?_, ?_⟩
     ·intro u hu
      rcases List.mem_append.1 hu with hu | hu
      ·exact hysz u (List.mem_of_mem_take hu)
      ·exact k7 u (List.mem_of_mem_drop hu)
     ·rw [zG2,zAC.append]
      have hself:zAC (setBlk w b (.cells (laid c (o+o'*s) (flat (yvs.take (min n ys.length)))) el fr)) b (o+o'*s) (flat (yvs.take (min n ys.length))):=zQe hbs hfit
      have hA:yvs.take (min n es.length)=(yvs.take (min n ys.length)).take es.length:=by
       apply List.ext_getElem?
       intro i
       simp only [List.getElem?_take]
       have:∀i,ys.length≤i→yvs[i]? =none:=fun i hi=>List.getElem?_eq_none (by omega)
       have:=this i
       grind
      refine ⟨?_, ?_⟩
      ·rw [hA,zIP (fun u hu=>hysz u (List.mem_of_mem_take hu))]
       exact hself.take _
      ·by_cases hc:min n ys.length≤es.length
       ·rw [zKj k7]
        have hAl:(flat (yvs.take (min n es.length))).length=min n ys.length*s:=by
         rw [zBe fun u hu=>hysz u (List.mem_of_mem_take hu),List.length_take,hylen]
         congr 1;omega
        rw [hAl]
        exact zHV hb (k8.drop _) (.inl (by rw [hk];exact Nat.le_refl _)) hfit
       ·rw [List.drop_of_length_le (by omega)]
        exact zAC.nil _ _ _
     ·refine DRs.append (DRs.mono (fun _ h=>h) (hprot _) _ _ (hy.take _)) (DRs.mono (fun _ h=>h) (hprot _) _ _ (k9.drop _))
   ·simp [VR]
  ·rename_i hne
   exact VR.keep _ _ (hkk t' hne _) h
 | ptr k o'=>
  simp only [cpyF]
  simp only [VR] at h⊢
  exact h
 | ep t' s i g e=>
  simp only [cpyF]
  split
  ·rename_i he;subst he
   simp only [VR] at h⊢
   obtain ⟨b',o2,cc,el',fr',k1,k2,k3,k4,k5,k6⟩:=h
   rw [ht] at k1;cases k1
   rw [hb] at k3;cases k3
   exact ⟨b,o,_,el,fr,ht,k2,by rw [zAQ];simp only [if_true,hbs],unfz k4,by rw [hsz];exact k5,fun _ h=>by cases h⟩
  ·rename_i hne
   exact VR.keep _ _ (hkk t' hne _) h
 | _=>simp [PV.leaf] at hl
end
end Go.Proofs.YtnmlihfpenjeiaaGreat.Abs
namespace Go.Proofs.YtnmlihfpenjeiaaGreat.Abs
open Go Go.RowKit
set_option linter.unusedVariables false
set_option linter.unusedSimpArgs false
structure zD7 (w w':World):Prop where
 size:w.heap.size≤w'.heap.size
 cells:∀(b:Nat) (c:Array Value) (el:TypeId) (fr:Nat×Nat),w.heap[b]? =some (.cells c el fr)→w'.heap[b]? =some (.cells c el fr)
 maps:∀(b:Nat) (es:Array MapEntry) (clock:Nat),w.heap[b]? =some (.map es clock)→w'.heap[b]? =some (.map es clock)
theorem zD7.refl (w:World):zD7 w w:=⟨Nat.le_refl _,fun _ _ _ _ h=>h,fun _ _ _ h=>h⟩
theorem zD7.cell {w w':World} (h:zD7 w w') {a:Addr} {v:Value} (hv:w.cell? a=some v):w'.cell? a=some v:=by
 unfold World.cell? at hv⊢
 split at hv
 ·rename_i c el fr hb
  rw [h.cells _ _ _ _ hb];exact hv
 ·cases hv
theorem zAC.calm {w w':World} (hc:zD7 w w') {b o:Nat} {cs:List Value} (h:zAC w b o cs):zAC w' b o cs:=fun i c hi=>hc.cell (h i c hi)
mutual
theorem DR.calm {pr pr':Nat→Prop} {w w':World} (hp:∀b,pr b→pr' b) (hc:zD7 w w'):∀(x:D) (v:Value),DR pr w x v→DR pr' w' x v
 | .bool b,v,h=>by simpa only [DR] using h
 | .int k n,v,h=>by simpa only [DR] using h
 | .flt k n,v,h=>by simpa only [DR] using h
 | .str s,v,h=>by simpa only [DR] using h
 | .lst es,v,h=>by
  simp only [DR] at h⊢
  rcases h with h | ⟨b,o,cap,sz,vs,h1,h2,h3,h4,h5,h6⟩
  ·exact .inl h
  ·exact .inr ⟨b,o,cap,sz,vs,h1,h2,hp b h3,h4,h5.calm hc,DRs.calm hp hc es vs h6⟩
 | .agg cs,v,h=>by
  simp only [DR] at h⊢
  obtain ⟨arr,h1,h0,h2⟩:=h
  exact ⟨arr,h1,h0,DRs.calm hp hc cs _ h2⟩
 | .ifc t x,v,h=>by
  simp only [DR] at h⊢
  obtain ⟨u,h1,h2⟩:=h
  exact ⟨u,h1,DR.calm hp hc x u h2⟩
 | .nilif,v,h=>by simpa only [DR] using h
 | .nilptr,v,h=>by simpa only [DR] using h
 | .nilfn,v,h=>by simpa only [DR] using h
 | .nilmap,v,h=>by simpa only [DR] using h
 | .mp _,v,h=>by simpa only [DR] using h
 | .clo fn a b,v,h=>by
  simp only [DR] at h⊢
  obtain ⟨fa,fb,h1,h2,h3⟩:=h
  exact ⟨fa,fb,h1,DRs.calm hp hc a _ h2,DRs.calm hp hc b _ h3⟩
 | .cp cs f,v,h=>by
  simp only [DR] at h⊢
  obtain ⟨b,o,vs,h1,h2,h0,h3,h4⟩:=h
  exact ⟨b,o,vs,h1,hp b h2,h0,h3.calm hc,DRs.calm hp hc cs _ h4⟩
theorem DRs.calm {pr pr':Nat→Prop} {w w':World} (hp:∀b,pr b→pr' b) (hc:zD7 w w'):∀(xs:List D) (vs:List Value),DRs pr w xs vs→DRs pr' w' xs vs
 | [],vs,h=>by simpa only [DRs] using h
 | x::xs,vs,h=>by
  simp only [DRs] at h⊢
  obtain ⟨u,us,h1,h2,h3⟩:=h
  exact ⟨u,us,h1,DR.calm hp hc x u h2,DRs.calm hp hc xs us h3⟩
end
structure Less (E E':Env) (w:World) (bs:List Tg):Prop where
 prot:∀b,E.prot b→E'.prot b
 row:∀(t:Tg) (r:Nat×Nat) (c:Array Value) (el:TypeId) (fr:Nat×Nat),E.row t=some r→w.heap[r.1]? =some (.cells c el fr)→E'.row t=some r
 box:∀t b,t∈bs→E.box t=some b→E'.box t=some b
mutual
def PV.ptrs:PV→List Tg
 | .ptr k _=>[k]
 | .agg cs=>PV.ptrsL cs
 | .clo _ a b=>PV.ptrsL a++PV.ptrsL b
 | .ifc _ x=>x.ptrs
 | .tup vs=>PV.ptrsL vs
 | .unk=>[]
 | .d _=>[]
 | .nils=>[]
 | .sl _ _ _ _=>[]
 | .ep _ _ _ _ _=>[]
def PV.ptrsL:List PV→List Tg
 | []=>[]
 | x::xs=>x.ptrs++PV.ptrsL xs
end
mutual
theorem VR.calm {E E':Env} {w w':World} (hc:zD7 w w'):∀(p:PV) (v:Value),Less E E' w p.ptrs→VR E w p v→VR E' w' p v
 | .unk,v,k,h=>by simp only [VR]
 | .d x,v,k,h=>by simp only [VR] at h⊢;exact DR.calm k.prot hc x v h
 | .nils,v,k,h=>by simpa only [VR] using h
 | .sl t sz off es,v,k,h=>by
  simp only [VR] at h⊢
  rcases h with h | ⟨b,o,cap,c,el,fr,vs,h1,h2,h3,h4,hf,h5,h6,h7,h8⟩
  ·exact .inl h
  ·exact .inr ⟨b,o,cap,c,el,fr,vs,k.row t _ _ _ _ h1 h4,h2,h3,hc.cells _ _ _ _ h4,hf,h5,h6,h7.calm hc,DRs.calm k.prot hc _ _ h8⟩
 | .ptr t off,v,k,h=>by
  simp only [VR] at h⊢
  obtain ⟨b,h1,h2⟩:=h
  exact ⟨b,k.box t b (by simp [PV.ptrs]) h1,h2⟩
 | .ep t sz idx f e,v,k,h=>by
  simp only [VR] at h⊢
  obtain ⟨b,o,c,el,fr,h1,h2,h3,hf,h4,h5⟩:=h
  refine ⟨b,o,c,el,fr,k.row t _ _ _ _ h1 h3,h2,hc.cells _ _ _ _ h3,hf,h4,fun x hx=> ?_⟩
  obtain ⟨u,h6,h7,h8⟩:=h5 x hx
  exact ⟨u,DR.calm k.prot hc _ _ h6,h7,h8.calm hc⟩
 | .agg cs,v,k,h=>by
  simp only [VR] at h⊢
  obtain ⟨arr,h1,h0,h2⟩:=h
  exact ⟨arr,h1,h0,VRs.calm hc cs _ (by simpa only [PV.ptrs] using k) h2⟩
 | .clo fn a b,v,k,h=>by
  simp only [VR] at h⊢
  obtain ⟨fa,fb,h1,h2,h3⟩:=h
  exact ⟨fa,fb,h1,VRs.calm hc a _ ⟨k.prot,k.row,fun t b' ht hb=>k.box t b' (by simp [PV.ptrs,ht]) hb⟩ h2,VRs.calm hc b _ ⟨k.prot,k.row,fun t b' ht hb=>k.box t b' (by simp [PV.ptrs,ht]) hb⟩ h3⟩
 | .ifc t x,v,k,h=>by
  simp only [VR] at h⊢
  obtain ⟨u,h1,h2⟩:=h
  exact ⟨u,h1,VR.calm hc x u (by simpa only [PV.ptrs] using k) h2⟩
 | .tup xs,v,k,h=>by
  simp only [VR] at h⊢
  obtain ⟨arr,h1,h2⟩:=h
  exact ⟨arr,h1,VRs.calm hc xs _ (by simpa only [PV.ptrs] using k) h2⟩
theorem VRs.calm {E E':Env} {w w':World} (hc:zD7 w w'):∀(ps:List PV) (vs:List Value),Less E E' w (PV.ptrsL ps)→VRs E w ps vs→VRs E' w' ps vs
 | [],vs,k,h=>by simpa only [VRs] using h
 | x::xs,vs,k,h=>by
  simp only [VRs] at h⊢
  obtain ⟨u,us,h1,h2,h3⟩:=h
  exact ⟨u,us,h1,VR.calm hc x u ⟨k.prot,k.row,fun t b' ht hb=>k.box t b' (by simp [PV.ptrsL,ht]) hb⟩ h2,VRs.calm hc xs us ⟨k.prot,k.row,fun t b' ht hb=>k.box t b' (by simp [PV.ptrsL,ht]) hb⟩ h3⟩
end
section
variable {E E':Env} {w w':World} {st:St} {tmps:Array Value}
theorem Less.refl (E:Env) (w:World) (bs:List Tg):Less E E w bs:=⟨fun _ h=>h,fun _ _ _ _ _ h _=>h,fun _ _ _ h=>h⟩
theorem Phys.calm {k:Tg} {o:Obj} {vs:List Value} (hc:zD7 w w') (h:Phys k o vs) {b:Nat} (hb:w.heap[b]? =some o):w'.heap[b]? =some o:=by
 rcases h with ⟨_,c,el,fr,rfl,_⟩ | ⟨_,es,clock,rfl,_⟩
 ·exact hc.cells _ _ _ _ hb
 ·exact hc.maps _ _ _ hb
theorem StR.calm (h:StR E w st tmps) (hc:zD7 w w'):StR E w' st tmps:=by
 refine ⟨fun d v hm=> ?_,fun k cs hm=> ?_⟩
 ·obtain ⟨u,h1,h2⟩:=h.tm d v hm
  exact ⟨u,h1,VR.calm hc v u (Less.refl _ _ _) h2⟩
 ·obtain ⟨b,o,vs,h1,h2,h3,h5⟩:=h.bx k cs hm
  exact ⟨b,o,vs,h1,h3.calm hc h2,h3,VRs.calm hc cs _ (Less.refl _ _ _) h5⟩
theorem zAm.calm (h:zAm E w) (hc:zD7 w w'):zAm E w':=h.grow hc.size
theorem Step.turn {E0:Env} {w0:World} (h:Step E0 w0 E w) (ho:w'.os=w.os) (ht:w'.tape=w.tape) (hu:w'.output=w.output) (hs:w.heap.size≤w'.heap.size) (hd:w.drawn≤w'.drawn) (hb:∀b,b<w0.heap.size→w'.heap[b]? =w.heap[b]?):Step E0 w0 E w':=
 ⟨ho.trans h.os,ht.trans h.tape,hu.trans h.output,Nat.le_trans h.size hs,Nat.le_trans h.drawn hd,fun b hlt hno=>(hb b hlt).trans (h.frame b hlt hno),h.own,h.prot,h.prot',h.pin⟩
end
end Go.Proofs.YtnmlihfpenjeiaaGreat.Abs
namespace Go.Proofs.YtnmlihfpenjeiaaGreat.Abs
open Go Go.RowKit
set_option linter.unusedVariables false
set_option linter.unusedSimpArgs false
section
variable {P:Program} {w:World}
theorem zIw {t:TypeId} {x:D} (h:zJz P t=some x):∃i z,P.info? t=some i∧i.zero=some z∧z.cells.size=i.size∧i.size≠0∧x.sz=i.size∧OneC z.cells.toList∧
  (∀pr w,∃v,DR pr w x v∧v.cells.toList=z.cells.toList):=by
 unfold zJz at h
 split at h
 ·rename_i i u zs h1 h2 h3
  obtain ⟨i',z,g1,g2,g3,g4⟩:=zJ2 h3
  rw [h1] at g1;cases g1
  split at h
  ·rename_i hl
   have hzl:z.cells.toList.length=zs.length:=(g4 (fun _=>False) default).length
   have hzs:z.cells.size=i.size:=by simpa [hl.1] using hzl
   split at h
   ·simp only [Option.some.injEq] at h;subst h
    refine ⟨i,z,h1,g2,hzs,hl.2,by simpa [D.sz] using hl.1,g3,fun pr w=>⟨.agg z.cells, ?_,by simp [Value.cells]⟩⟩
    simp only [DR];exact ⟨_,rfl,g3,g4 pr w⟩
   ·split at h
    ·rename_i y
     simp only [Option.some.injEq] at h;subst h
     have hx:y.sz=1:=by
      have:=g4 (fun _=>False) default
      simp only [DRs] at this
      obtain ⟨u',us,e1,e2,rfl⟩:=this
      rw [←e2.size]
      have h1c:=g3 u' (by rw [e1];simp)
      cases u'<;>simp [Value.oneCell'] at h1c<;>simp [Value.cells]
     refine ⟨i,z,h1,g2,hzs,hl.2,by rw [hx,←hl.1];rfl,g3,fun pr w=> ?_⟩
     have:=g4 pr w
     simp only [DRs] at this
     obtain ⟨u',us,e1,e2,rfl⟩:=this
     refine ⟨u',e2, ?_⟩
     rw [e1]
     have h1c:=g3 u' (by rw [e1];simp)
     cases u'<;>simp [Value.oneCell'] at h1c<;>simp [Value.cells]
    ·cases h
  ·cases h
 ·cases h
theorem zIa {size n b o len cap:Nat} {cs:List Value} (h:zAC w b o cs) (hl:cs.length=n*size):
  (Builtin.firstCells size n (.slice (some ⟨b,o,none⟩) len cap)).run P w= .ok cs.toArray w:=by
 simp only [Builtin.firstCells,←hl,zHi h]
theorem zGz {size:Nat} {a:Option Addr} {len cap:Nat}:(Builtin.firstCells size 0 (.slice a len cap)).run P w= .ok #[] w:=by
 cases a<;>simp [Builtin.firstCells,loadCells,loadCellsFrom]
def Src (P:Program) (w:World) (size m:Nat) (y:Value) (cs:List Value):Prop:=
 ∃a c,y= .slice a m c∧cs.length=m*size∧OneC cs∧∀w',(∀b o,a=some ⟨b,o,none⟩→m≠0→w'.heap[b]? =w.heap[b]?)→(Builtin.firstCells size m y).run P w'= .ok cs.toArray w'
theorem Src.of {size m b o c:Nat} {cs:List Value} (h:zAC w b o cs) (hl:cs.length=m*size) (h1:OneC cs):Src P w size m (.slice (some ⟨b,o,none⟩) m c) cs:=by
 refine ⟨_,_,rfl,hl,h1,fun w' hw=> ?_⟩
 by_cases hm:m=0
 ·subst hm
  rw [zGz]
  have:cs=[]:=List.eq_nil_of_length_eq_zero (by simpa using hl)
  rw [this]
 ·exact zIa (h.mono (hw b o rfl hm)) hl
theorem Src.nil {size:Nat} (a:Option Addr) (c:Nat):Src P w size 0 (.slice a 0 c) []:=
 ⟨a,c,rfl,by simp,by simp [OneC],fun w' _=>by rw [zGz]⟩
theorem zUc {t u ty e e':TypeId} {i:TypeInfo} (ht:P.underlying t=some (.slice e)) (hu:P.underlying u=some (.slice e')) (hi:P.info? e=some i) {b o len cap m:Nat} {y:Value} {cs:List Value}
  {c:Array Value} {el:TypeId} {fr:Nat×Nat} (hb:w.heap[b]? =some (.cells c el fr)) (hf:Unfz c fr) (hs:Src P w i.size m y cs) (hroom:len+m≤cap) (hfit:o+cap*i.size≤c.size):
  (Builtin.append_ #[t,u] ty #[.slice (some ⟨b,o,none⟩) len cap,y]).run P w= .ok (.slice (some ⟨b,o,none⟩) (len+m) cap) (setBlk w b (.cells (laid c (o+len*i.size) cs) el fr)):=by
 obtain ⟨a,cc,rfl,hl,h1,hrun⟩:=hs
 have h2:=hrun w (fun _ _ _ _=>rfl)
 have h3:=zF1 (P:=P) b el fr cs 0 (o+len*i.size) c w hb hf (by
  have:=Nat.mul_le_mul_right i.size hroom
  rw [Nat.add_mul] at this;omega) h1
 simp only [Nat.add_zero] at h3
 simp [Builtin.append_,run_underlying ht,run_underlying hu,zBd hi,Builtin.lenOf,hroom,h2,Addr.add_mk,h3]
theorem zRp {t u ty e e':TypeId} {i:TypeInfo} {z:Value} (ht:P.underlying t=some (.slice e)) (hu:P.underlying u=some (.slice e')) (hi:P.info? e=some i) (hz:i.zero=some z)
  (hzs:z.cells.size=i.size) {a0:Option Addr} {len cap m:Nat} {y:Value} {cs old:List Value} (hold:(Builtin.firstCells i.size len (.slice a0 len cap)).run P w.drew= .ok old.toArray w.drew) (hol:old.length=len*i.size)
  (hs:Src P w i.size m y cs) (hroom:¬len+m≤cap) (h47:len+m≤140737488355328) (hby:(len+m)*i.bytes≤140737488355328):
  ∃newCap rest,len+m≤newCap∧(old++cs++rest).length=newCap*i.size∧
   (Builtin.append_ #[t,u] ty #[.slice a0 len cap,y]).run P w= .ok (.slice (some ⟨w.heap.size,0,none⟩) (len+m) newCap) (w.drew.alloc (.cells (old++cs++rest).toArray e)):=by
 obtain ⟨a,cc,rfl,hl,h1,hrun⟩:=hs
 have h2:=hrun w.drew (fun _ _ _ _=>rfl)
 have hfits:=growslice_fits (need:=len+m) (old:=cap) (bytes:=i.bytes) (by omega) hby
 let newCap:=Question.cut (.appendCap (len+m) cap e) (w.tape w.drawn (.appendCap (len+m) cap e))
 have hnc:len+m≤newCap:=by simp only [newCap,Question.cut];omega
 refine ⟨newCap,(Builtin.zeroCells z.cells (newCap-(len+m))).toList,hnc, ?_, ?_⟩
 ·simp only [List.length_append,hol,hl,Array.length_toList,size_zeroCells,hzs]
  rw [←Nat.add_mul,←Nat.add_mul];congr 1;omega
 ·have hmax:¬(IntKind.i64.max<((len+m:Nat):Int)∧(False∨i.bytes=0)):=by
   intro h;have:=h.1;simp only [IntKind.max_i64] at this;omega
  have h48:¬(281474976710656<Builtin.nextslicecap (len+m) cap*i.bytes):=by omega
  have hch:(choose (.appendCap (len+m) cap e)).run P w= .ok newCap w.drew:=by
   simp [run_choose,Question.forced,newCap]
  simp only [IntKind.max_i64] at hmax
  simp [Builtin.append_,run_underlying ht,run_underlying hu,zBd hi,Builtin.lenOf,hroom,zD8 hi,h48,zBJ hi hz,newRow]
  rw [if_neg (by intro h;omega)]
  simp [Question.forced,hold,h2]
  refine ⟨rfl, ?_⟩
  congr 2
  apply Array.toList_inj.1
  simp [newCap]
end
end Go.Proofs.YtnmlihfpenjeiaaGreat.Abs
namespace Go.Proofs.YtnmlihfpenjeiaaGreat.Abs
open Go Go.RowKit
set_option linter.unusedVariables false
set_option linter.unusedSimpArgs false
def zDk (sz:Nat):PV→Option (List D)
 | .nils=>some []
 | .sl _ s _ es=>if s=sz then some es else none
 | .d (.lst es)=>some es
 | _=>none
def zM2 (kk:IntKind) (n:Int):List PV→Option Bool
 | []=>some false
 | .d (.int k' c)::_::r=>if k'=kk then (if c=n then some true else zM2 kk n r) else none
 | _=>none
def wop (site:Nat) (op:AOp) (st:St):Option (Prop×PV×St):=
 match op with
 | .alloc _ _ z=>some (True, .ptr (.s site) 0,(st.rebind (.s site)).setBox (.s site) (z.map zP))
 | .mkmap b=>some (True, .ptr (.s (site-1)) 0,(st.rebind (.s (site-1))).setBox (.s (site-1)) (bif b then [.d (.mp [])] else []))
 | .insrt kk m k x=>match st.val m,st.val k,st.val x with
  | some (.ptr t _),some (.d (.int k' n)),some p=>if t.isM=true then (match st.box t with
   | some [.d (.mp l)]=>(match p with
    | .d (.bool b)=>if k'=kk∧kk= .i64 then some (True, .unk,st.setBox t [.d (.mp (insM l n b))]) else none
    | _=>none)
   | some cs=>if k'=kk∧zM2 kk n cs=some false then some (True, .unk,st.setBox t (cs++[.d (.int kk n),p])) else none
   | none=>none) else none
  | _,_,_=>none
 | .box _ x=>match st.val x with
  | some p=>if (p.mapT (zIf (.s site))).known then some (True, .ptr (.s site) 0,(st.rebind (.s site)).setBox (.s site) (p.mapT (zIf (.s site))).cells) else none
  | none=>none
 | .bslice _ sz parts=>match zA8 st.val parts with
  | some ps=>match PV.toDL ps with
   | some es=>some (∀e∈es,e.sz=sz, .sl (.s site) sz 0 es,(st.frz (PV.tagsL ps)).rebind (.s site))
   | none=>none
  | none=>none
 | .mark x=>match st.val x with
  | some (.sl t sz _ es)=>some (es≠[], .sl (.s site) sz 0 es,(st.rebind t).rebind (.s site))
  | _=>none
 | .convB _ x=>match st.val x with
  | some (.d (.str s))=>some (True, .sl (.s site) 1 0 (s.data.toList.map fun b=> .int .u8 (b.toNat:Int)),st.rebind (.s site))
  | _=>none
 | .mkS _ sz bytes z l c=>match ix st.val l,ix st.val c with
  | some (_,n),some (_,m)=>some (0≤n∧n≤m∧m≤140737488355328∧m*(bytes:Int)≤140737488355328, .sl (.s site) sz 0 (List.replicate n.toNat z),st.rebind (.s site))
  | _,_=>none
 | .store sz a x=>match st.val a,st.val x with
  | some (.ptr k o),some p=>if k.isM=true then none else match st.box k with
   | some cs=>if p.known then some (o+sz≤cs.length∧p.cells.length=sz, .unk,st.setBox k (cs.take o++p.cells++cs.drop (o+sz))) else none
   | none=>none
  | some (.ep t s i f e),some p=>match p.toD with
   | some x=>if t∉p.tags∧f.getD 0+sz≤s∧(f=none→sz=s)∧0<sz then some (x.sz=sz, .unk,(st.frz p.tags).map (updF t s i (zEP f x))) else none
   | none=>none
  | _,_=>none
 | .app _ sz bytes x y=>match st.val x,(st.val y).bind (zDk sz) with
  | some .nils,some ys=>some (ys.length≤140737488355328∧ys.length*bytes≤140737488355328∧(∀e∈ys,e.sz=sz), .sl (.s site) sz 0 ys,(st.rebind (.s site)).rebind (.s site))
  | some (.sl t s _ es),some ys=>if s=sz then
    some (es.length+ys.length≤140737488355328∧(es.length+ys.length)*bytes≤140737488355328∧(∀e∈ys,e.sz=sz), .sl (.s site) sz 0 (es++ys),(st.rebind t).rebind (.s site))
   else none
  | _,_=>none
 | .appZ _ sz bytes z x y=>match st.val x,ix st.val y with
  | some .nils,some (_,n)=>some (0≤n∧n≤140737488355328∧n*(bytes:Int)≤140737488355328, .sl (.s site) sz 0 (List.replicate n.toNat z),st.rebind (.s site))
  | _,_=>none
 | .copy sz x y=>match st.val x,st.val y with
  | some (.sl t s off es),some yp=>match zDk sz yp with
   | some ys=>if s=sz∧t∉yp.tags then some (∀e∈ys,e.sz=sz, .d (.int .i64 ((min es.length ys.length:Nat):Int)),st.map (cpyF t sz off es.length ys)) else none
   | none=>none
  | _,_=>none
 | _=>none
section
variable {P:Program} {E:Env} {w:World} {st:St} {a:Act}
def Does (P:Program) (E:Env) (w:World) (st':St) (tmps:Array Value) (s:Sem Next) (v:PV):Prop:=
 ∃u w' E',(s.run P w= .ok (.value u) w'∨(s.run P w= .ok .skip w'∧u=undef))∧VR E' w' v u∧zAm E' w'∧StR E' w' st' tmps∧Step E w E' w'
theorem zFS {s:Sem Value} {u:Value} {w':World} {E':Env} {st':St} {tmps:Array Value} {v:PV} (h:s.run P w= .ok u w') (h1:VR E' w' v u) (h2:zAm E' w') (h3:StR E' w' st' tmps)
  (h4:Step E w E' w'):Does P E w st' tmps (do pure (.value (←s))) v:=
 ⟨u,w',E', .inl (by simp [h]),h1,h2,h3,h4⟩
theorem opdR (hs:StR E w st a.tmps):OpdR E w a.eval st.val:=fun x o p h hp=>zMD h hs hp
theorem zTH {y:PV} {v:Value} {sz:Nat} {es:List D} (h:zDk sz y=some es) (hv:VR E w y v) (hsz:∀e∈es,e.sz=sz):
  ∃cs vs,Src P w sz es.length v cs∧cs=flat vs∧DRs E.prot w es vs∧∀u∈vs,u.cells.size=sz:=by
 cases y with
 | nils=>
  simp only [zDk,Option.some.injEq] at h;subst h
  simp only [VR] at hv;subst hv
  exact ⟨[],[],Src.nil _ _,rfl,by simp [DRs],by simp⟩
 | sl t s off es'=>
  simp only [zDk] at h
  split at h
  ·rename_i he;subst he
   simp only [Option.some.injEq] at h;subst h
   simp only [VR] at hv
   rcases hv with ⟨rfl,a,rfl⟩ | ⟨b,o,cap,c,el,fr,vs,h1,rfl,h3,h4,hf,h5,h6,h7,h8⟩
   ·exact ⟨[],[],Src.nil _ _,rfl,by simp [DRs],by simp⟩
   ·exact ⟨flat vs,vs,Src.of h7 (by rw [zBe h6,h8.length]) h8.one,rfl,h8,h6⟩
  ·cases h
 | d x=>
  cases x with
  | lst es'=>
   simp only [zDk,Option.some.injEq] at h;subst h
   simp only [VR,DR] at hv
   rcases hv with ⟨rfl,a,c0,rfl⟩ | ⟨b,o,cap,sz',vs,rfl,h3,h4,h6,h7,h8⟩
   ·exact ⟨[],[],Src.nil _ _,rfl,by simp [DRs],by simp⟩
   ·by_cases hz:es'=[]
    ·subst hz
     have:vs=[]:=List.eq_nil_of_length_eq_zero (by rw [h8.length];rfl)
     subst this
     exact ⟨[],[],Src.nil _ _,rfl,by simp [DRs],by simp⟩
    ·have hss:sz'=sz:=by
      obtain ⟨e0,he0⟩:∃e0,es'[0]? =some e0:=zHD (List.length_pos_iff.2 hz)
      obtain ⟨u0,hu0,hd0⟩:=h8.getElem? he0
      rw [←h6 u0 (List.mem_of_getElem? hu0),hd0.size,hsz e0 (List.mem_of_getElem? he0)]
     subst hss
     exact ⟨flat vs,vs,Src.of h7 (by rw [zBe h6,h8.length]) h8.one,rfl,h8,h6⟩
  | _=>simp [zDk] at h
 | _=>simp [zDk] at h
theorem zUf {y:PV} {v:Value} {sz:Nat} {es:List D} (h:zDk sz y=some es) (hv:VR E w y v) (hsz:∀e∈es,e.sz=sz):
  ∃a c vs,v= .slice a es.length c∧DRs E.prot w es vs∧(∀u∈vs,u.cells.size=sz)∧∀k,k≤es.length→(Builtin.firstCells sz k v).run P w= .ok (flat (vs.take k)).toArray w:=by
 have empty:∀(a:Option Addr) c,v= .slice a 0 c→es=[]→∃a c vs,v= .slice a es.length c∧DRs E.prot w es vs∧(∀u∈vs,u.cells.size=sz)∧∀k,k≤es.length→(Builtin.firstCells sz k v).run P w= .ok (flat (vs.take k)).toArray w:=by
  rintro a c rfl rfl
  refine ⟨a,c,[],rfl,by simp [DRs],by simp,fun k hk=> ?_⟩
  have:k=0:=by simpa using hk
  subst this
  rw [zGz];rfl
 have full:∀{b o cap:Nat} {vs:List Value},v= .slice (some ⟨b,o,none⟩) es.length cap→zAC w b o (flat vs)→(∀u∈vs,u.cells.size=sz)→DRs E.prot w es vs→
   ∃a c vs,v= .slice a es.length c∧DRs E.prot w es vs∧(∀u∈vs,u.cells.size=sz)∧∀k,k≤es.length→(Builtin.firstCells sz k v).run P w= .ok (flat (vs.take k)).toArray w:=by
  rintro b o cap vs rfl h1 h2 h3
  refine ⟨_,_,vs,rfl,h3,h2,fun k hk=> ?_⟩
  rw [zIP h2]
  exact zIa (h1.take _) (by rw [List.length_take,zBe h2,h3.length,Nat.min_eq_left (Nat.mul_le_mul_right _ hk)])
 cases y with
 | nils=>
  simp only [zDk,Option.some.injEq] at h;subst h
  simp only [VR] at hv
  exact empty none 0 hv rfl
 | sl t s off es'=>
  simp only [zDk] at h
  split at h
  ·rename_i he;subst he
   simp only [Option.some.injEq] at h;subst h
   simp only [VR] at hv
   rcases hv with ⟨h,a,h'⟩ | ⟨b,o,cap,c,el,fr,vs,h1,h2,h3,h4,hf,h5,h6,h7,h8⟩
   ·exact empty a 0 h' h
   ·exact full h2 h7 h6 h8
  ·cases h
 | d x=>
  cases x with
  | lst es'=>
   simp only [zDk,Option.some.injEq] at h;subst h
   simp only [VR,DR] at hv
   rcases hv with ⟨h,a,c0,h'⟩ | ⟨b,o,cap,sz',vs,h2,h3,h4,h6,h7,h8⟩
   ·exact empty a c0 h' h
   ·by_cases hz:es'=[]
    ·subst hz
     exact empty (some ⟨b,o,none⟩) cap h2 rfl
    ·have hss:sz'=sz:=by
      obtain ⟨e0,he0⟩:∃e0,es'[0]? =some e0:=zHD (List.length_pos_iff.2 hz)
      obtain ⟨u0,hu0,hd0⟩:=h8.getElem? he0
      rw [←h6 u0 (List.mem_of_getElem? hu0),hd0.size,hsz e0 (List.mem_of_getElem? he0)]
     subst hss
     exact full h2 h7 h6 h8
  | _=>simp [zDk] at h
 | _=>simp [zDk] at h
theorem zVz (hv:zAm E w) (hs:StR E w st a.tmps) {t u ty e:TypeId} {i:TypeInfo} (ht:P.underlying t=some (.slice e)) (hi:P.info? e=some i)
  {tg:Tg} {off:Nat} {es ys:List D} {x y:Value} {yp:PV} (hx:VR E w (.sl tg i.size off es) x) (hy:VR E w yp y) (hly:zDk i.size yp=some ys) (hsz:∀e∈ys,e.sz=i.size):
  ∃w',(Builtin.copy_ #[t,u] ty #[x,y]).run P w= .ok (.int .i64 ((min es.length ys.length:Nat):Int)) w'∧zAm E w'∧StR E w' (st.map (cpyF tg i.size off es.length ys)) a.tmps∧Step E w E w':=by
 obtain ⟨ya,yc,yvs,rfl,hyd,hysz,hrun⟩:=zUf (P:=P) hly hy hsz
 simp only [VR] at hx
 rcases hx with ⟨rfl,a0,rfl⟩ | ⟨b,o,cap,c,el,fr,vs,h1,rfl,h3,h4,hf,h5,h6,h7,h8⟩
 ·refine ⟨w, ?_,hv, ?_,Step.refl _ _⟩
  ·have h2:=hrun 0 (Nat.zero_le _)
   have e0:Nat.min ys.length 0=0:=Nat.min_zero _
   cases a0<;>simp [Builtin.copy_,run_underlying ht,zBd hi,Builtin.lenOf,e0,h2,storeCells,flat,goInt]
  ·exact hs.map (fun _ h=>h) (fun _ _=>rfl) (fun p v hl h=>zOZ hl h) (fun _ _ _ _ hb=>⟨hb,rfl⟩)
 ·have hk:=hrun (min ys.length es.length) (Nat.min_le_left _ _)
  have hcap:=Nat.mul_le_mul_right i.size h3
  have hfit:o+off*i.size+es.length*i.size≤c.size:=by rw [Nat.add_mul] at h5;omega
  have hle:(flat (yvs.take (min ys.length es.length))).length≤es.length*i.size:=by
   rw [zBe fun u hu=>hysz u (List.mem_of_mem_take hu),List.length_take]
   exact Nat.mul_le_mul_right _ (by omega)
  have h1c:OneC (flat (yvs.take (min ys.length es.length))):=(hyd.take (min ys.length es.length)).one
  have hst:=zF1 (P:=P) b el fr (flat (yvs.take (min ys.length es.length))) 0 (o+off*i.size) c w h4 hf (by omega) h1c
  have hpb:=(hv.row_lt _ _ _ h1).2
  refine ⟨setBlk w b (.cells (laid c (o+off*i.size) (flat (yvs.take (min es.length ys.length)))) el fr), ?_,hv.setBlk _ _, ?_,Step.setBlk hv _ (.inl ⟨_,_,h1⟩)⟩
  ·simp only [Nat.add_zero] at hst
   have hmm:Nat.min ys.length es.length=min ys.length es.length:=rfl
   simp [Builtin.copy_,run_underlying ht,zBd hi,Builtin.lenOf,hmm,hk,hst,goInt,Nat.min_comm es.length ys.length]
  ·exact hs.map (fun _ h=>h) (fun q hq=>by rw [zAQ,if_neg (fun e=>by subst e;exact hpb hq)]) (fun p v hl h=>zRg hv h1 h4 hyd hysz hfit hl h)
    (fun k cs hm b' hb'=>⟨hb',by rw [zAQ,if_neg (fun e=>by subst e;exact hv.row_box _ _ _ _ h1 hb')]⟩)
theorem zLh (hv:zAm E w) {t:Tg} {b o:Nat} (h:E.row t=some (b,o)):¬Own (E.unbind t) b:=by
 rintro (⟨u,o',hu⟩ | ⟨k,hk⟩)
 ·obtain ⟨h1,h2⟩:=Env.unbind_row.1 hu
  exact h1 (hv.row_row _ _ _ _ _ h2 h)
 ·exact hv.row_box _ _ _ _ h (Env.unbind_box.1 hk).2
theorem zVW (hv:zAm E w) (hs:StR E w st a.tmps) {T:Tg} {t u ty e e':TypeId} {i:TypeInfo} {z:D} (ht:P.underlying t=some (.slice e)) (hu:P.underlying u=some (.slice e'))
  (hi:P.info? e=some i) (hz:zJz P e=some z) {tg:Tg} {off:Nat} {es ys:List D} {x y:Value} {yp:PV} (hx:VR E w (.sl tg i.size off es) x) (hy:VR E w yp y) (hly:zDk i.size yp=some ys)
  (h47:es.length+ys.length≤140737488355328) (hby:(es.length+ys.length)*i.bytes≤140737488355328) (hsz:∀e∈ys,e.sz=i.size):
  ∃r w' E',(Builtin.append_ #[t,u] ty #[x,y]).run P w= .ok r w'∧VR E' w' (.sl T i.size 0 (es++ys)) r∧zAm E' w'∧StR E' w' ((st.rebind tg).rebind T) a.tmps∧Step E w E' w':=by
 obtain ⟨cs,yvs,hsrc,rfl,hyd,hysz⟩:=zTH (P:=P) hly hy hsz
 obtain ⟨i',zv,g1,g2,g3,g4,g5,g6,g7⟩:=zIw hz
 rw [hi] at g1;cases g1
 have hv1:=hv.unbind tg
 have hs1:=hs.rebind hv tg
 have grow:∀(a0:Option Addr) (cap:Nat) (ovs:List Value),x= .slice a0 es.length cap→¬es.length+ys.length≤cap→(Builtin.firstCells i.size es.length (.slice a0 es.length cap)).run P w.drew= .ok (flat ovs).toArray w.drew→
   DRs E.prot w es ovs→(∀u∈ovs,u.cells.size=i.size)→
   ∃r w' E',(Builtin.append_ #[t,u] ty #[x,y]).run P w= .ok r w'∧VR E' w' (.sl T i.size 0 (es++ys)) r∧zAm E' w'∧StR E' w' ((st.rebind tg).rebind T) a.tmps∧Step E w E' w':=by
  intro a0 cap ovs hxe hroom hold hod hosz
  obtain ⟨nc,rest,k1,k2,k3⟩:=zRp (ty:=ty) ht hu hi g2 g3 hold (by rw [zBe hosz,hod.length]) hsrc hroom h47 hby
  have hg:=Grew.drew_alloc w (.cells (flat ovs++flat yvs++rest).toArray e)
  have hbig:nc*i.size=(flat ovs++flat yvs++rest).toArray.size:=by rw [←k2];simp
  obtain ⟨r1,r2,r3,r4⟩:=zKq (T:=T) (sz:=i.size) (cap:=nc) (es:=es++ys) (vs:=ovs++yvs) (rest:=rest) hv1 hs1 hg (by simpa using k1) (by rw [hbig];exact Nat.le_refl _)
   (fun u hu'=>(List.mem_append.1 hu').elim (hosz u) (hysz u)) (by simp [zG2]) (DRs.append hod hyd)
  refine ⟨_,_,_,by rw [hxe];exact k3, ?_,r1,r2,(Step.unbind hv tg).trans r3⟩
  rw [List.length_append] at r4;exact r4
 have hx':=hx
 simp only [VR] at hx'
 rcases hx' with ⟨rfl,a0,rfl⟩ | ⟨b,o,cap,c,el,fr,vs,h1,rfl,h3,h4,hf,h5,h6,h7,h8⟩
 ·by_cases hys:ys=[]
  ·subst hys
   refine ⟨.slice a0 0 0,w,(E.unbind tg).unbind T, ?_, ?_,hv1.unbind T,hs1.rebind hv1 T,(Step.unbind hv tg).trans (Step.unbind hv1 T)⟩
   ·obtain ⟨a',cc,rfl,hl,h1,hrun⟩:=hsrc
    simp only [List.length_nil] at hrun⊢
    have h2:=hrun w (fun _ _ _ h=>absurd rfl h)
    have:flat yvs=[]:=List.eq_nil_of_length_eq_zero (by simpa using hl)
    simp [Builtin.append_,run_underlying ht,run_underlying hu,zBd hi,Builtin.lenOf,h2,this]
    cases a0<;>simp [storeCells]
   ·simp only [VR];exact .inl ⟨by simp,a0,rfl⟩
  ·have hpos:0<ys.length:=List.length_pos_iff.2 hys
   exact grow a0 0 [] rfl (by simp;omega) (by rw [List.length_nil,zGz];rfl) (by simp [DRs]) (by simp)
 ·by_cases hroom:es.length+ys.length≤cap
  ·have k3:=zUc (P:=P) (t:=t) (u:=u) (ty:=ty) ht hu hi h4 hf hsrc hroom (o:=o+off*i.size) (by rw [Nat.add_mul] at h5;omega)
   have hbs:=(Array.getElem?_eq_some_iff.1 h4).1
   have hno:=zLh hv h1
   have hno2:¬Own ((E.unbind tg).unbind T) b:=fun h=>hno h.unbind
   have hpb:=(hv.row_lt _ _ _ h1).2
   have hv2:=hv1.unbind T
   have hs2:=hs1.rebind hv1 T
   let ob:Obj:= .cells (laid c (o+off*i.size+es.length*i.size) (flat yvs)) el fr
   have hw3:∀k,k≠b→(setBlk w b ob).heap[k]? =w.heap[k]? :=fun k hk=>by rw [zAQ,if_neg hk]
   have hs3:StR ((E.unbind tg).unbind T) (setBlk w b ob) ((st.rebind tg).rebind T) a.tmps:=
    hs2.keep (fun _ h=>h) (fun k hk=>hw3 k (fun e=>by subst e;exact hpb hk)) (fun t' r hr=>⟨hr,hw3 _ (fun e=>by subst e;exact hno2 (.inl ⟨t',r.2,hr⟩))⟩) (fun k b' hb'=>⟨hb',hw3 _ (fun e=>by subst e;exact hno2 (.inr ⟨k,hb'⟩))⟩)
   have hv3:=hv2.setBlk b ob
   have hn:((E.unbind tg).unbind T).row T=none:=by simp [Env.unbind]
   have hv4:=hv3.bindRow (t:=T) (b:=b) (o:=o+off*i.size) hn hno2 hpb (by rw [zFT];exact hbs)
   refine ⟨_,_,_,k3, ?_,hv4,hs3.bindRow hn, ?_⟩
   ·have hlen:=zKx (c:=c) (o:=o+off*i.size+es.length*i.size) (l:=flat yvs) (by
     rw [zBe hysz,hyd.length]
     have:=Nat.mul_le_mul_right i.size hroom
     rw [Nat.add_mul] at this h5;omega)
    simp only [VR]
    refine .inr ⟨b,o+off*i.size,cap,laid c (o+off*i.size+es.length*i.size) (flat yvs),el,fr,vs++yvs,by simp [Env.bindRow],by simp,by simpa using hroom,by rw [zAQ];simp only [if_true,hbs], ?_, ?_, ?_, ?_, ?_⟩
    ·rcases hf with hf | hf
     ·exact .inl hf
     ·exact .inr (by rw [hlen];exact hf)
    ·rw [hlen,Nat.zero_add];rw [Nat.add_mul] at h5;omega
    ·exact fun u hu'=>(List.mem_append.1 hu').elim (h6 u) (hysz u)
    ·rw [zG2,zAC.append,zBe h6,h8.length]
     have hvl:(flat vs).length=es.length*i.size:=by rw [zBe h6,h8.length]
     have hcap:=Nat.mul_le_mul_right i.size hroom
     rw [Nat.add_mul] at hcap h5
     have hyl:(flat yvs).length=ys.length*i.size:=by rw [zBe hysz,hyd.length]
     simp only [Nat.zero_mul,Nat.add_zero]
     refine ⟨zHV h4 h7 (.inr (by rw [hvl];exact Nat.le_refl _)) (by omega), ?_⟩
     intro j x hj
     have hjl:=(List.getElem?_eq_some_iff.1 hj).1
     simp only [World.cell?,zAQ,if_true,hbs]
     simp only [Option.isSome_none,Bool.false_eq_true,if_false]
     simp only [laid,List.getElem?_toArray,List.getElem?_append,List.getElem?_take,List.getElem?_drop,List.length_append,List.length_take]
     have hcs:c.toList.length=c.size:=by simp
     grind
    ·exact DRs.append (DRs.mono (fun _ h=>h) (fun k hk=>hw3 k (fun e=>by subst e;exact hpb hk)) _ _ h8) (DRs.mono (fun _ h=>h) (fun k hk=>hw3 k (fun e=>by subst e;exact hpb hk)) _ _ hyd)
   ·refine ⟨rfl,rfl,rfl,by rw [zFT];exact Nat.le_refl _,Nat.le_refl _,fun k hk ho=>hw3 k (fun e=>by subst e;exact ho (.inl ⟨_,_,h1⟩)),fun k hk=> ?_,fun _ h=>h,fun _ h=> .inl h,fun _ _ h=>Env.unbind_box.2 ⟨.inr rfl,Env.unbind_box.2 ⟨.inr rfl,h⟩⟩⟩
    rcases hk.bindRow with rfl | hk
    ·exact .inl (.inl ⟨_,_,h1⟩)
    ·exact .inl hk.unbind.unbind
  ·exact grow _ cap vs rfl hroom (zIa (h7.mono rfl) (by rw [zBe h6,h8.length])) h8 h6
end
end Go.Proofs.YtnmlihfpenjeiaaGreat.Abs
namespace Go.Proofs.YtnmlihfpenjeiaaGreat.Abs
open Go Go.RowKit
set_option linter.unusedVariables false
set_option linter.unusedSimpArgs false
section
variable {P:Program} {E:Env} {w:World} {st:St} {a:Act}
theorem zPG (t:TypeId) (v:Value):(newVar t v).run P w= .ok ⟨w.heap.size,0,none⟩ (w.alloc (.cells v.cells t)):=by
 simp [newVar,newRow]
theorem zMt {z:Array Value} {k:Nat} (hk:k≠0) (hz:z.size=k):∀m,((Array.range (m*k)).map fun i=>z[i % z.size]!).toList=(List.replicate m z.toList).flatten:=by
 intro m
 induction m with
 | zero=>simp
 | succ m ih=>
  have e1:Array.range ((m+1)*k)=Array.range (m*k)++(Array.range k).map (·+m*k):=by
   apply Array.ext
   ·simp [Nat.add_mul]
   ·intro i h1 h2
    simp only [Array.getElem_range]
    rw [Array.getElem_append]
    split
    ·simp
    ·simp;simp at*;omega
  rw [e1,Array.map_append,Array.toList_append,ih,List.replicate_succ',List.flatten_append]
  congr 1
  apply List.ext_getElem?
  intro i
  simp only [Array.toList_map,Array.toList_range,List.map_map,List.flatten_cons,List.flatten_nil,List.append_nil]
  rw [List.getElem?_map]
  by_cases hi:i<k
  ·rw [List.getElem?_range hi]
   simp only [Option.map_some,Function.comp,hz]
   rw [Nat.add_mul_mod_self_right,Nat.mod_eq_of_lt hi]
   have:i<z.size:=by omega
   simp [getElem!_pos z i this,this]
  ·rw [List.getElem?_eq_none (by simp;omega),List.getElem?_eq_none (by simp;omega)]
   rfl
theorem zIU {pr:Nat→Prop} {x:D} {v:Value} (h:DR pr w x v):∀n,DRs pr w (List.replicate n x) (List.replicate n v)
 | 0=>by simp [DRs]
 | n+1=>by simp only [List.replicate_succ,DRs];exact ⟨v,_,rfl,h,zIU h n⟩
theorem zLd (v:Value) (n:Nat):flat (List.replicate n v)=(List.replicate n v.cells.toList).flatten:=by
 simp [flat,List.flatMap]
theorem zTt {sz:Nat} (hz:sz≠0):∀(vs:List Value) (k:Nat) (c:Array Value),(∀u∈vs,u.cells.size=sz)→k*sz+vs.length*sz=c.size→
  Instr.fill (fun i=>some (i*sz,sz)) c ((vs.zipIdx k).map fun r=>(r.2,r.1))=some ((c.toList.take (k*sz)++flat vs).toArray)
 | [],k,c,h,hc=>by
  simp only [List.zipIdx_nil,List.map_nil,Instr.fill,flat,List.flatMap_nil,List.append_nil]
  rw [List.take_of_length_le (by simp at hc⊢;omega)]
 | v::vs,k,c,h,hc=>by
  have hv:=h v (by simp)
  simp only [List.length_cons,Nat.add_mul,Nat.one_mul] at hc
  simp only [List.zipIdx_cons,List.map_cons,Instr.fill]
  rw [if_neg (by simp;omega)]
  rw [←Array.foldl_toList,Array.toList_zipIdx,zOF c (k*sz) v.cells.toList 0 (by simp;omega)]
  rw [zTt hz vs (k+1) _ (fun u hu=>h u (by simp [hu])) (by simp [Nat.add_mul];omega)]
  congr 2
  simp only [Nat.add_zero,Array.length_toList,hv,flat,List.flatMap_cons]
  rw [←List.append_assoc]
  congr 1
  rw [List.take_append_of_le_length (by simp [Nat.add_mul];omega)]
  rw [List.take_of_length_le (by simp [Nat.add_mul];omega)]
theorem zRX (hv:zAm E w) (hs:StR E w st a.tmps) {T:Tg} {t e:TypeId} {j:TypeInfo} {z:Value} (ht:P.underlying t=some (.slice e)) (hi:P.info? e=some j) (hz:j.zero=some z) (hj:j.size≠0)
  (hzs:z.cells.size=j.size) {n:Nat} {parts:Array (Nat×Operand)} (hn:parts.toList.map (·.1)=List.range n) (hsm:n*j.size≤1000) {os:List Opd} (hos:trOs (parts.toList.map (·.2))=some os) {ps:List PV}
  (hps:zA8 st.val os=some ps) {es:List D} (hes:PV.toDL ps=some es) (hsz:∀e∈es,e.sz=j.size):
  Does P E w ((st.frz (PV.tagsL ps)).rebind T) a.tmps (do pure (.value (←Instr.buildSlice t n (parts.map fun (i,x)=>(i,a.eval x))))) (.sl T j.size 0 es):=by
 have hV:=zCZ (opdR hs) hos hps
 have hv1:=hv.frz (PV.tagsL ps)
 have hs1:=hs.frz hv (PV.tagsL ps)
 have hd:DRs (E.frz (PV.tagsL ps)).prot w es ((parts.toList.map (·.2)).map a.eval):=
  zEI (pr:=(E.frz (PV.tagsL ps)).prot) (fun _ h=> .inl h) ps _ es hes (fun t h b o hr=> .inr ⟨t,h,o,hr⟩) hV
 let vs:=(parts.toList.map (·.2)).map a.eval
 have hvs:∀u∈vs,u.cells.size=j.size:=by
  intro u hu
  obtain ⟨i,hi⟩:=List.getElem?_of_mem hu
  have hl:=hd.length
  have hil:i<es.length:=by have:=(List.getElem?_eq_some_iff.1 hi).1;simp only [vs] at this;omega
  obtain ⟨y,h1,h2⟩:=hd.at hil
  have:u=y:=by simp only [vs] at hi;rw [hi] at h1;exact Option.some.inj h1
  subst this
  rw [h2.size];exact hsz _ (List.mem_of_getElem? (zOv hil))
 have hlen:vs.length=n:=by
  have:=congrArg List.length hn
  simpa [vs] using this
 have hel:es.length=n:=by rw [←hlen];exact hd.length.symm
 have hparts:(parts.map fun x:Nat×Operand=>(x.1,a.eval x.2)).toList=(vs.zipIdx 0).map fun r=>(r.2,r.1):=by
  apply List.ext_getElem?
  intro i
  simp only [Array.toList_map,List.getElem?_map,List.getElem?_zipIdx,vs,Nat.zero_add]
  by_cases hi:i<n
  ·have h1:(parts.toList.map (·.1))[i]? =some i:=by rw [hn,List.getElem?_range hi]
   rw [List.getElem?_map] at h1
   cases hp:parts.toList[i]? with
   | none=>rw [hp] at h1;cases h1
   | some q=>rw [hp] at h1;simp at h1;simp [h1]
  ·have:parts.toList.length=n:=by have:=congrArg List.length hn;simpa using this
   rw [List.getElem?_eq_none (by omega)];rfl
 let c:Array Value:=(flat vs).toArray
 have hcs:(flat vs).length=n*j.size:=by rw [zBe hvs,hlen]
 have run:(Instr.buildSlice t n (parts.map fun x:Nat×Operand=>(x.1,a.eval x.2))).run P w= .ok (.slice (some ⟨w.heap.size,0,none⟩) n n) (w.alloc (.cells c e)):=by
  have hfill:=zTt hj vs 0 ((Array.range (n*j.size)).map (z.cells[· % z.cells.size]!)) hvs (by simp [hlen])
  simp only [Nat.zero_mul,List.take_zero,List.nil_append] at hfill
  have hnl:¬(16777216<n*j.size):=by omega
  simp only [Instr.buildSlice,Sem.run_bind,run_underlying ht,Result.andThen_ok,zBd hi]
  by_cases h0:n*j.size=0
  ·have hn0:n=0:=by rcases Nat.mul_eq_zero.1 h0 with h | h;exact h;exact absurd h hj
   have hp0:parts= #[]:=by
    have:=congrArg List.length hn;simp [hn0] at this;exact this
   have hv0:vs=[]:=by simp [vs,hp0]
   subst hn0
   simp [hp0,c,hv0,flat,Instr.fill,newRow,Array.range_zero']
  ·simp only [hparts]
   simp only [if_neg (show ¬(n*j.size>2 ^ 24) by omega),if_neg h0,Sem.run_bind,zBJ hi hz,Result.andThen_ok,Sem.run_pure]
   rw [hfill]
   simp [newRow,c]
 obtain ⟨r1,r2,r3,r4⟩:=zKq (T:=T) (sz:=j.size) (cap:=n) (es:=es) (vs:=vs) (rest:=[]) hv1 hs1 (Grew.alloc w (.cells c e)) (by omega) (by simp [c,hcs]) hvs (by simp [c]) hd
 refine zFS run ?_ r1 r2 ((Step.frz hv _).trans r3)
 rw [hel] at r4;exact r4
theorem zQF {x:Int} (h0: -9223372036854775808≤x) (h1:x≤9223372036854775807):IntKind.i64.wrap x=x:=by
 rw [IntKind.wrap_i64];omega
theorem zWW (hv:zAm E w) (hs:StR E w st a.tmps) {T:Tg} {t e:TypeId} {j:TypeInfo} {z:D} (ht:P.underlying t=some (.slice e)) (hi:P.info? e=some j) (hz:zJz P e=some z) {k k':IntKind} {n m:Int}
  (h0:0≤n) (h1:n≤m) (h2:m≤140737488355328) (h3:m*(j.bytes:Int)≤140737488355328):
  Does P E w (st.rebind T) a.tmps (do pure (.value (←Instr.makeSlice t (.int k n) (.int k' m)))) (.sl T j.size 0 (List.replicate n.toNat z)):=by
 obtain ⟨i',zv,g1,g2,g3,g4,g5,g6,g7⟩:=zIw hz
 rw [hi] at g1;cases g1
 obtain ⟨v,hdv,hvc⟩:=g7 E.prot w
 have hvs:v.cells.size=j.size:=by rw [hdv.size,g5]
 let c:Array Value:=(Array.range (m.toNat*j.size)).map fun i=>zv.cells[i % zv.cells.size]!
 have hc:c.toList=(List.replicate m.toNat zv.cells.toList).flatten:=zMt g4 g3 m.toNat
 have run:(Instr.makeSlice t (.int k n) (.int k' m)).run P w= .ok (.slice (some ⟨w.heap.size,0,none⟩) n.toNat m.toNat) (w.alloc (.cells c e)):=by
  have w1:IntKind.i64.wrap n=n:=zQF (by omega) (by omega)
  have w2:IntKind.i64.wrap m=m:=zQF (by omega) (by omega)
  have hb:(j.bytes:Int)*m≤140737488355328:=by rw [Int.mul_comm];exact h3
  have hbig:¬(281474976710656<(j.bytes:Int)*m):=by omega
  have h4:¬m<0:=by omega
  have h5:¬n<0:=by omega
  have h6:¬m<n:=by omega
  simp only [Instr.makeSlice,Sem.run_bind,run_underlying ht,Result.andThen_ok,asInt,asIntOf,Sem.run_pure,zD8 hi,w1,w2]
  simp [h4,h5,h6,hbig,zBd hi,newRow]
  by_cases hz0:m.toNat=0
  ·simp [hz0,c,Array.range_zero']
  ·have:¬(m≤0):=by omega
   simp [this,g4,zBJ hi g2,c]
   intro hz'
   rcases Nat.mul_eq_zero.1 hz' with h | h
   ·exact absurd h hz0
   ·exact absurd h g4
 have hcs:c.size=m.toNat*j.size:=by simp [c]
 obtain ⟨r1,r2,r3,r4⟩:=zKq (T:=T) (sz:=j.size) (cap:=m.toNat) (es:=List.replicate n.toNat z) (vs:=List.replicate n.toNat v) (rest:=(List.replicate (m.toNat-n.toNat) zv.cells.toList).flatten) hv hs (Grew.alloc w (.cells c e))
  (by simp;omega) (by rw [hcs];exact Nat.le_refl _) (fun u hu=>by rw [(List.mem_replicate.1 hu).2];exact hvs)
  (by rw [hc,zLd,hvc,←List.flatten_append,List.replicate_append_replicate];congr 2;omega) (zIU hdv _)
 refine zFS run ?_ r1 r2 r3
 rw [List.length_replicate] at r4;exact r4
theorem zU9 (hv:zAm E w) (hs:StR E w st a.tmps) {T:Tg} {t u ty e:TypeId} {ku:IntKind} {j:TypeInfo} {z:D} (ht:P.underlying t=some (.slice e)) (hu:P.underlying u=some (.int ku)) (hi:P.info? e=some j) (hz:zJz P e=some z) {k:IntKind} {n:Int}
  (h0:0≤n) (h2:n≤140737488355328) (h3:n*(j.bytes:Int)≤140737488355328):
  Does P E w (st.rebind T) a.tmps (do pure (.value (←Builtin.append_ #[t,u] ty #[.slice none 0 0, .int k n]))) (.sl T j.size 0 (List.replicate n.toNat z)):=by
 obtain ⟨i',zv,g1,g2,g3,g4,g5,g6,g7⟩:=zIw hz
 rw [hi] at g1;cases g1
 obtain ⟨v,hdv,hvc⟩:=g7 E.prot w
 have hvs:v.cells.size=j.size:=by rw [hdv.size,g5]
 have w1:IntKind.i64.wrap n=n:=zQF (by omega) (by omega)
 have hbig:¬(281474976710656<n*(j.bytes:Int)):=by omega
 have h4:¬n<0:=by omega
 by_cases hn0:n.toNat=0
 ·have hn:n=0:=by omega
  subst hn
  have run:(Builtin.append_ #[t,u] ty #[.slice none 0 0, .int k 0]).run P w= .ok (.slice none 0 0) w:=by
   simp [Builtin.append_,run_underlying ht,run_underlying hu,zBd hi,asInt,asIntOf,w1,zD8 hi]
  refine zFS run ?_ (hv.unbind T) (hs.rebind hv T) (Step.unbind hv T)
  simp only [VR]
  exact .inl ⟨rfl,none,rfl⟩
 ·generalize hm:n.toNat=m at*
  have hnm:n=(m:Int):=by omega
  subst hnm
  have hmb:m*j.bytes≤140737488355328:=by omega
  have hfits:=growslice_fits (need:=m) (old:=0) (bytes:=j.bytes) (by omega) hmb
  let newCap:=Question.cut (.appendCap m 0 e) (w.tape w.drawn (.appendCap m 0 e))
  have hnc:m≤newCap:=by simp only [newCap,Question.cut];omega
  let c:Array Value:=Builtin.zeroCells zv.cells m++Builtin.zeroCells zv.cells (newCap-m)
  have run:(Builtin.append_ #[t,u] ty #[.slice none 0 0, .int k (m:Int)]).run P w= .ok (.slice (some ⟨w.heap.size,0,none⟩) m newCap) (w.drew.alloc (.cells c e)):=by
   have hmax:¬(IntKind.i64.max<((0+m:Nat):Int)):=by simp only [IntKind.max_i64];omega
   have h48:¬(281474976710656<Builtin.nextslicecap m 0*j.bytes):=by omega
   have hch:(choose (.appendCap m 0 e)).run P w= .ok newCap w.drew:=by
    simp [run_choose,Question.forced,newCap]
   have hms:¬(m*j.size=0):=by
    intro h
    rcases Nat.mul_eq_zero.1 h with h | h
    ·exact hn0 h
    ·exact g4 h
   simp only [IntKind.max_i64] at hmax
   simp [Builtin.append_,run_underlying ht,run_underlying hu,zBd hi,asInt,asIntOf,w1,zD8 hi,hbig,hn0,h48,zBJ hi g2,newRow,g4]
   have hmax':¬(9223372036854775807<(m:Int)):=by omega
   have h4':¬(m:Int)<0:=by omega
   rw [if_neg h4',if_neg hmax']
   simp only [Question.forced,Bool.false_eq_true,if_false]
   simp only [Builtin.firstCells,Sem.run_pure,Result.andThen_ok,if_neg hms,Array.empty_append]
   rfl
  have hcl:c.toList=(List.replicate m zv.cells.toList).flatten++(List.replicate (newCap-m) zv.cells.toList).flatten:=by
   simp only [c,Array.toList_append,Builtin.zeroCells]
   rw [←g3] at g4
   have e1:=zMt (z:=zv.cells) g4 rfl m
   have e2:=zMt (z:=zv.cells) g4 rfl (newCap-m)
   rw [e1,e2]
  have hcs:c.size=newCap*j.size:=by
   simp only [c,Array.size_append,size_zeroCells,g3]
   rw [←Nat.add_mul];congr 1;omega
  obtain ⟨r1,r2,r3,r4⟩:=zKq (T:=T) (sz:=j.size) (cap:=newCap) (es:=List.replicate m z) (vs:=List.replicate m v) (rest:=(List.replicate (newCap-m) zv.cells.toList).flatten) hv hs (Grew.drew_alloc w (.cells c e))
   (by simp;omega) (by rw [hcs];exact Nat.le_refl _) (fun u hu=>by rw [(List.mem_replicate.1 hu).2];exact hvs)
   (by rw [hcl,zLd,hvc]) (zIU hdv _)
  refine zFS run ?_ r1 r2 r3
  rw [List.length_replicate] at r4;exact r4
theorem zML {t:TypeId} {j:TypeInfo} (hi:P.info? t=some j) {b o:Nat} {c:Array Value} {el:TypeId} {fr:Nat×Nat} (hb:w.heap[b]? =some (.cells c el fr)) (hf:Unfz c fr) {v:Value}
  (hv:v.cells.size=j.size) (ho:o+j.size≤c.size) (h1:OneC v.cells.toList):(storeVar t ⟨b,o,none⟩ v).run P w= .ok () (setBlk w b (.cells (laid c o v.cells.toList) el fr)):=by
 have h3:=zF1 (P:=P) b el fr v.cells.toList 0 o c w hb hf (by simp;omega) h1
 simp only [Nat.add_zero] at h3
 simp only [storeVar,Sem.run_bind,zBd hi,Result.andThen_ok,ne_eq,hv,not_true,if_false,h3,Sem.run_pure]
theorem zNS {c:Array Value} {o:Nat} {l:List Value}:(laid c o l).toList=zDQ c.toList o l:=by simp [laid,zDQ]
theorem zVr (hv:zAm E w) (hs:StR E w st a.tmps) {T:Tg} {sT e:TypeId} (ht:P.underlying sT=some (.slice e)) (he:P.underlying e=some (.int .u8)) {tg:Tg} {sz off:Nat} {es:List D} {x:Value}
  (hx:VR E w (.sl tg sz off es) x) (hne:es≠[]):Does P E w ((st.rebind tg).rebind T) a.tmps (do pure (.value (←convert sT sT x))) (.sl T sz 0 es):=by
 simp only [VR] at hx
 rcases hx with ⟨h,_⟩ | ⟨b,o,cap,c,el,fr,vs,h1,rfl,h3,h4,hf,h5,h6,h7,h8⟩
 ·exact absurd h hne
 ·have hv1:=hv.unbind tg
  have hs1:=hs.rebind hv tg
  have hbs:=(Array.getElem?_eq_some_iff.1 h4).1
  have hno:=zLh hv h1
  have hno2:¬Own ((E.unbind tg).unbind T) b:=fun h=>hno h.unbind
  have hpb:=(hv.row_lt _ _ _ h1).2
  have hv2:=hv1.unbind T
  have hs2:=hs1.rebind hv1 T
  let fr':Nat×Nat:=if fr.1==fr.2 then (c.size,c.size+1) else (min fr.1 c.size,max fr.2 (c.size+1))
  have hf':Unfz c fr':=by
   right
   simp only [fr']
   split
   ·exact Nat.le_refl _
   ·rename_i hn
    have:fr.1≠fr.2:=by simpa using hn
    rcases hf with hf | hf
    ·exact absurd hf.symm this
    ·simp only;omega
  let ob:Obj:= .cells c el fr'
  have run:(convert sT sT (.slice (some ⟨b,o+off*sz,none⟩) es.length cap)).run P w= .ok (.slice (some ⟨b,o+off*sz,none⟩) es.length cap) (setBlk w b ob):=by
   have hsh:w.shape? b=some (el,c.size):=by simp [World.shape?,h4]
   have hz:w.freeze ⟨b,c.size,none⟩ 1=setBlk w b ob:=by
    simp only [World.freeze,setBlk,Nat.one_ne_zero,if_false]
    congr 1
    apply Array.ext_getElem?
    intro i
    rw [Array.getElem?_modify,Array.getElem?_setIfInBounds]
    by_cases hi:b=i
    ·subst hi
     have:w.heap[b]= .cells c el fr:=by simpa [Array.getElem?_eq_getElem hbs] using h4
     simp [hbs,this,ob,fr']
    ·simp [hi]
   simp [convert,run_underlying ht,run_underlying he,markStringish,hsh,hz,Result.andThen]
  have hw3:∀k,k≠b→(setBlk w b ob).heap[k]? =w.heap[k]? :=fun k hk=>by rw [zAQ,if_neg hk]
  have hs3:StR ((E.unbind tg).unbind T) (setBlk w b ob) ((st.rebind tg).rebind T) a.tmps:=
   hs2.keep (fun _ h=>h) (fun k hk=>hw3 k (fun e=>by subst e;exact hpb hk)) (fun t' r hr=>⟨hr,hw3 _ (fun e=>by subst e;exact hno2 (.inl ⟨t',r.2,hr⟩))⟩) (fun k b' hb'=>⟨hb',hw3 _ (fun e=>by subst e;exact hno2 (.inr ⟨k,hb'⟩))⟩)
  have hv3:=hv2.setBlk b ob
  have hn:((E.unbind tg).unbind T).row T=none:=by simp [Env.unbind]
  have hv4:=hv3.bindRow (t:=T) (b:=b) (o:=o+off*sz) hn hno2 hpb (by rw [zFT];exact hbs)
  refine zFS run ?_ hv4 (hs3.bindRow hn) ?_
  ·simp only [VR]
   refine .inr ⟨b,o+off*sz,cap,c,el,fr',vs,by simp [Env.bindRow],by simp,h3,by rw [zAQ];simp only [if_true,hbs,ob],hf', ?_,h6, ?_, ?_⟩
   ·rw [Nat.zero_add];rw [Nat.add_mul] at h5;omega
   ·rw [Nat.zero_mul,Nat.add_zero]
    intro j x hj
    have:=h7 j x hj
    simp only [World.cell?,h4] at this
    simp only [World.cell?,zAQ,if_true,hbs,ob]
    exact this
   ·exact DRs.mono (fun _ h=>h) (fun k hk=>hw3 k (fun e=>by subst e;exact hpb hk)) _ _ h8
  ·refine ⟨rfl,rfl,rfl,by rw [zFT];exact Nat.le_refl _,Nat.le_refl _,fun k hk ho=>hw3 k (fun e=>by subst e;exact ho (.inl ⟨_,_,h1⟩)),fun k hk=> ?_,fun _ h=>h,fun _ h=> .inl h,fun _ _ h=>Env.unbind_box.2 ⟨.inr rfl,Env.unbind_box.2 ⟨.inr rfl,h⟩⟩⟩
   rcases hk.bindRow with rfl | hk
   ·exact .inl (.inl ⟨_,_,h1⟩)
   ·exact .inl hk.unbind.unbind
theorem zTR (hv:zAm E w) (hs:StR E w st a.tmps) {T:Tg} {sT dT e:TypeId} (h1:P.underlying sT=some .string) (h2:P.underlying dT=some (.slice e)) (h3:P.underlying e=some (.int .u8)) (s:ByteArray):
  Does P E w (st.rebind T) a.tmps (do pure (.value (←convert sT dT (.string s)))) (.sl T 1 0 (s.data.toList.map fun b=> .int .u8 (b.toNat:Int))):=by
 have run:=Go.Lib.run_convert_string_bytes (P:=P) w sT dT e s h1 h2 h3
 have hcap:=grownCap_ge w s.size 0 e
 have hl:s.data.toList.length=s.size:=by rw [Array.length_toList];rfl
 have hcs:(Lib.bytesCells w e s).size=grownCap w s.size 0 e:=by
  have:s.data.size=s.size:=rfl
  simp [Lib.bytesCells,this];omega
 have hg:Grew w (Lib.bytesWorld w e s) (.cells (Lib.bytesCells w e s) e ((Lib.bytesCells w e s).size,(Lib.bytesCells w e s).size+1)):=
  ⟨rfl,rfl,rfl,Lib.bytesWorld_size w e s,(by first | exact Nat.le_refl _ | exact Nat.le_succ _),fun b hb=>Lib.bytesWorld_at_old w e s b hb,Lib.bytesWorld_at_new w e s⟩
 have hd:∀l:List UInt8,DRs E.prot w (l.map fun b=> .int .u8 (b.toNat:Int)) (l.map fun b=>Value.int .u8 b.toNat):=by
  intro l
  induction l with
  | nil=>simp [DRs]
  | cons x l ih=>simp only [List.map_cons,DRs,DR];exact ⟨_,_,rfl,rfl,ih⟩
 have hf:∀l:List UInt8,flat (l.map fun b=>Value.int .u8 b.toNat)=l.map fun b=>Value.int .u8 b.toNat:=by
  intro l
  induction l with
  | nil=>rfl
  | cons x l ih=>simp only [List.map_cons,flat,List.flatMap_cons] at ih⊢;rw [ih];rfl
 obtain ⟨r1,r2,r3,r4⟩:=zPo (T:=T) (sz:=1) (cap:=grownCap w s.size 0 e) (es:=s.data.toList.map fun b=> .int .u8 (b.toNat:Int)) (vs:=s.data.toList.map fun b=>Value.int .u8 b.toNat)
  (rest:=List.replicate (grownCap w s.size 0 e-s.size) (.int .u8 0)) (.inr (Nat.le_refl _)) hv hs hg (by rw [List.length_map,hl];exact hcap) (by rw [hcs];omega)
  (fun u hu=>by obtain ⟨x,_,rfl⟩:=List.mem_map.1 hu;rfl) (by rw [hf];simp [Lib.bytesCells]) (hd _)
 refine zFS run ?_ r1 r2 r3
 rw [List.length_map,hl] at r4;exact r4
theorem zNL {kk:IntKind} {n:Int}:∀{l:List MapEntry} {cs:List PV} {i:Nat},VRs E w cs (zCk l)→zM2 kk n cs=some false→Instr.findNow (.int kk) (.int kk n) l i=some none
 | [],cs,i,h,hk=>rfl
 | e::l,cs,i,h,hk=>by
  match cs,h,hk with
  | [],h,hk=>simp [VRs,zCk] at h
  | [p],h,hk=>simp [VRs,zCk] at h
  | p::q::r,h,hk=>
   have hm:zCk (e::l)=e.key::e.val::zCk l:=rfl
   rw [hm] at h
   simp only [VRs] at h
   obtain ⟨u,us,h1,h2,u2,us2,h3,h4,h5⟩:=h
   simp only [List.cons.injEq] at h1
   obtain ⟨rfl,rfl⟩:=h1
   simp only [List.cons.injEq] at h3
   obtain ⟨rfl,rfl⟩:=h3
   unfold zM2 at hk
   split at hk
   ·rename_i he;cases he
   ·rename_i k' c p' r' he
    simp only [List.cons.injEq] at he
    obtain ⟨rfl,rfl,rfl⟩:=he
    split at hk
    ·rename_i hkk;subst hkk
     split at hk
     ·cases hk
     ·rename_i hcn
      simp only [VR,DR] at h2
      simp only [Instr.findNow,h2,Instr.sameNow,if_true]
      have:(n==c)=false:=by simp;exact fun e=>hcn e.symm
      rw [this]
      exact zNL h5 hk
    ·cases hk
   ·cases hk
theorem zTw (a b:List MapEntry):zCk (a++b)=zCk a++zCk b:=by simp [zCk]
theorem zQT {site:Nat} (hsite:site % 16=15) (hv:zAm E w) (hs:StR E w st a.tmps) {o:Oper} {ao:AOp} (ht:trOp P o.op=some ao) {c:Prop} {v:PV} {st':St} (hr:wop site ao st=some (c,v,st')) (hc:c):
  Does P E w st' a.tmps (execOp a.eval o) v:=by
 obtain ⟨dst,op,type,pos,after,guard⟩:=o
 simp only at ht
 have hO:=opdR hs
 have upd:∀(t:TypeId) (m k x:Operand),(match mapT P t,trO m,trO k,trO x with
   | some q,some m',some k',some x'=>some (AOp.insrt q.2.1 m' k' x')
   | _,_,_,_=>none)=some ao→∃w',(Instr.mapUpdate t (a.eval m) (a.eval k) (a.eval x)).run P w= .ok () w'∧zAm E w'∧StR E w' st' a.tmps∧Step E w E w'∧v= .unk:=by
  intro t m k x ht
  split at ht
  ·rename_i q m' k' x' h1 h2 h3 h4
   obtain ⟨kt,kk,et⟩:=q
   obtain ⟨hu,huk⟩:=zJB h1
   simp only [Option.some.injEq] at ht;subst ht
   simp only [wop] at hr
   split at hr
   ·rename_i tg o' k0 n p h5 h6 h7
    split at hr
    ·rename_i hM
     split at hr
     ·rename_i l h8
      split at hr
      ·rename_i bb
       split at hr
       ·rename_i h9
        obtain ⟨rfl,rfl⟩:=h9
        simp only [Option.some.injEq,Prod.mk.injEq] at hr;obtain ⟨rfl,rfl,rfl⟩:=hr
        have g1:=hO _ _ _ h2 h5
        have g2:=hO _ _ _ h3 h6
        have g3:=hO _ _ _ h4 h7
        simp only [VR,DR] at g1 g2 g3
        obtain ⟨b,g4,g5⟩:=g1
        rw [zIK hM] at g5
        obtain ⟨b',ob,vs,q1,q2,q3,q4⟩:=hs.bx _ _ (zEd h8)
        rw [g4] at q1;cases q1
        obtain ⟨es,clock,rfl,q5⟩:=q3.mp hM q4
        have hik:Go.MapKept.IsKey (.int .i64) (.int .i64 n):=rfl
        have hbs:=(Array.getElem?_eq_some_iff.1 q2).1
        have hvr:VRs E w [.d (.mp (insM l n bb))] [mpV (insM l n bb)]:=by simp only [VRs];exact ⟨_,_,rfl,by simp only [VR,DR],rfl⟩
        rcases MapR.find n 0 q5 with ⟨f1,_,_,f4⟩ | ⟨j,e,f1,_,f3,f4,f5⟩
        ·refine ⟨setBlk w b (.map (es.push { key:= .int .i64 n,val:=a.eval x,born:=clock }) (clock+1)), ?_,hv.setBlk _ _, ?_,Step.setBlk hv _ (.inr ⟨tg,g4⟩),rfl⟩
         ·simp only [Instr.mapUpdate,Sem.run_bind,run_underlying hu,Result.andThen_ok,g5,g2,Go.MapKept.run_getObj_map q2,Go.MapKept.run_checkKey huk hik,Go.MapKept.run_findKey huk f1,Go.MapKept.run_setObj_map _ q2]
          rfl
         ·refine zJl hv hs g4 (.inr ⟨hM,_,_,rfl, .inr ⟨_,rfl, ?_⟩⟩) hvr hbs
          rw [Array.toList_push]
          exact f4 bb _ rfl g3
        ·rw [Nat.zero_add] at f1
         have f3':es[j]? =some e:=by rw [←Array.getElem?_toList];exact f3
         have hkt:(Instr.keyThatStays (((es[j]?).map (·.key)).getD (.int .i64 n)) (.int .i64 n)).run P w= .ok (.int .i64 n) w:=by
          rw [f3']
          simp only [Option.map_some,Option.getD_some,f4]
          simp [Instr.keyThatStays,Instr.sameBits]
         refine ⟨setBlk w b (.map (es.modify j fun e=>{ e with key:= .int .i64 n,val:=a.eval x }) clock), ?_,hv.setBlk _ _, ?_,Step.setBlk hv _ (.inr ⟨tg,g4⟩),rfl⟩
         ·simp only [Instr.mapUpdate,Sem.run_bind,run_underlying hu,Result.andThen_ok,g5,g2,Go.MapKept.run_getObj_map q2,Go.MapKept.run_checkKey huk hik,Go.MapKept.run_findKey huk f1,hkt,Go.MapKept.run_setObj_map _ q2]
          rfl
         ·refine zJl hv hs g4 (.inr ⟨hM,_,_,rfl, .inr ⟨_,rfl, ?_⟩⟩) hvr hbs
          have hlt:j<es.size:=(Array.getElem?_eq_some_iff.1 f3').1
          have:(es.modify j fun e=>{ e with key:= .int .i64 n,val:=a.eval x }).toList=es.toList.set j { e with key:= .int .i64 n,val:=a.eval x }:=by
           apply List.ext_getElem?
           intro i
           rw [Array.getElem?_toList,Array.getElem?_modify,List.getElem?_set]
           by_cases hji:j=i
           ·subst hji
            rw [if_pos rfl,if_pos rfl,if_pos (by simpa using hlt),f3'];rfl
           ·simp [hji]
          rw [this]
          exact f5 bb _ rfl g3
       ·cases hr
      ·cases hr
     ·rename_i cs hne h8
      split at hr
      ·rename_i h9
       obtain ⟨rfl,h10⟩:=h9
       simp only [Option.some.injEq,Prod.mk.injEq] at hr;obtain ⟨rfl,rfl,rfl⟩:=hr
       have g1:=hO _ _ _ h2 h5
       have g2:=hO _ _ _ h3 h6
       have g3:=hO _ _ _ h4 h7
       simp only [VR,DR] at g1 g2
       obtain ⟨b,g4,g5⟩:=g1
       rw [zIK hM] at g5
       obtain ⟨b',ob,vs,q1,q2,q3,q4⟩:=hs.bx _ _ (zEd h8)
       rw [g4] at q1;cases q1
       rcases q3 with ⟨hf,_⟩ | ⟨_,es,clock,rfl,rfl | ⟨l',rfl,_⟩⟩
       ·rw [hM] at hf;cases hf
       rotate_left
       ·obtain ⟨p,rfl⟩:=VRs.one q4
        simp only [zM2] at h10;cases h10
       have hfind:=zNL (i:=0) q4 h10
       have hik:Go.MapKept.IsKey (.int k0) (.int k0 n):=rfl
       have hbs:=(Array.getElem?_eq_some_iff.1 q2).1
       refine ⟨setBlk w b (.map (es.push { key:= .int k0 n,val:=a.eval x,born:=clock }) (clock+1)), ?_,hv.setBlk _ _, ?_,Step.setBlk hv _ (.inr ⟨tg,g4⟩),rfl⟩
       ·simp only [Instr.mapUpdate,Sem.run_bind,run_underlying hu,Result.andThen_ok,g5,g2,Go.MapKept.run_getObj_map q2,Go.MapKept.run_checkKey huk hik,Go.MapKept.run_findKey huk hfind,Go.MapKept.run_setObj_map _ q2]
        rfl
       ·refine zJl hv hs g4 (vs:=zCk (es.push { key:= .int k0 n,val:=a.eval x,born:=clock }).toList) (.inr ⟨hM,_,_,rfl, .inl rfl⟩) ?_ hbs
        rw [Array.toList_push,zTw]
        refine VRs.append q4 ?_
        simp only [VRs]
        exact ⟨_,_,rfl,by simp only [VR,DR],_,_,rfl,g3,rfl⟩
      ·cases hr
     ·cases hr
    ·cases hr
   ·cases hr
  ·cases ht
 cases op with
 | makeMap t r=>
  simp only [trOp] at ht
  split at ht
  ·simp only [Option.some.injEq] at ht;subst ht
   simp only [wop,Option.some.injEq,Prod.mk.injEq] at hr;obtain ⟨rfl,rfl,rfl⟩:=hr
   have hM:(Tg.s (site-1)).isM=true:=by simp [Tg.isM];omega
   have run:(Instr.makeMap t (Option.map a.eval none)).run P w= .ok (.map (some w.heap.size)) (w.alloc (.map #[] 0)):=by
    simp only [Instr.makeMap,Option.map_none,Sem.run_bind,newObj]
    rfl
   rename_i q' _
   generalize hbm:zPS P _=bm at*
   cases bm with
   | false=>
    obtain ⟨r1,r2,r3,r4⟩:=zL0 (T:= .s (site-1)) rfl hv hs (Grew.alloc w (.map #[] 0)) (cs:=[]) (vs:=[]) (.inr ⟨hM,_,_,rfl, .inl rfl⟩) (by simp [VRs])
    rw [zIK hM] at r4
    exact zFS run r4 r1 r2 r3
   | true=>
    obtain ⟨r1,r2,r3,r4⟩:=zL0 (T:= .s (site-1)) rfl hv hs (Grew.alloc w (.map #[] 0)) (cs:=[.d (.mp [])]) (vs:=[mpV []]) (.inr ⟨hM,_,_,rfl, .inr ⟨[],rfl,rfl⟩⟩) (by simp only [VRs];exact ⟨_,_,rfl,by simp only [VR,DR],rfl⟩)
    rw [zIK hM] at r4
    exact zFS run r4 r1 r2 r3
  ·cases ht
 | mapUpdate t m k x=>
  simp only [trOp] at ht
  obtain ⟨w',g1,g2,g3,g4,rfl⟩:=upd t m k x ht
  exact ⟨undef,w',E, .inr ⟨by simp [execOp,g1],rfl⟩,by simp [VR],g2,g3,g4⟩
 | insert t m k x=>
  simp only [trOp] at ht
  obtain ⟨w',g1,g2,g3,g4,rfl⟩:=upd t m k x ht
  exact ⟨undef,w',E, .inr ⟨by simp [execOp,g1],rfl⟩,by simp [VR],g2,g3,g4⟩
 | alloc e=>
  simp only [trOp] at ht
  split at ht
  ·rename_i j z h1 h2
   simp only [Option.some.injEq] at ht;subst ht
   simp only [wop,Option.some.injEq,Prod.mk.injEq] at hr;obtain ⟨rfl,rfl,rfl⟩:=hr
   obtain ⟨i',zv,g1,g2,g3,g4⟩:=zJ2 h2
   rw [h1] at g1;cases g1
   have run:(Instr.alloc e true (.tuple #[])).run P w= .ok (.pointer (some ⟨w.heap.size,0,none⟩)) (w.alloc (.cells zv.cells e)):=by
    simp [Instr.alloc,zBJ h1 g2,zPG]
   obtain ⟨r1,r2,r3,r4⟩:=zRf (T:= .s site) rfl (by simp [Tg.isM];omega) hv hs (Grew.alloc w (.cells zv.cells e)) g3 (zQU h2 h1 g2 (E.unbind (.s site)) w)
   exact zFS run r4 r1 r2 r3
  ·cases ht
 | box e x=>
  simp only [trOp,Option.map_eq_some_iff] at ht
  obtain ⟨y,h1,rfl⟩:=ht
  simp only [wop] at hr
  split at hr
  ·rename_i p h2
   split at hr
   ·rename_i h3
    simp only [Option.some.injEq,Prod.mk.injEq] at hr;obtain ⟨rfl,rfl,rfl⟩:=hr
    have h4:=hO _ _ _ h1 h2
    have h5:VR (E.unbind (.s site)) w (p.mapT (zIf (.s site))) (a.eval x):=
     VR.map (E:=E) (w:=w) (E':=E.unbind (.s site)) (w':=w) (f:=zIf (.s site)) (fun _ h=>h) (fun _ _=>rfl) (fun q u hl hq=>zLH hl hq) p _ h4
    have run:(Instr.box e (a.eval x)).run P w= .ok (.pointer (some ⟨w.heap.size,0,none⟩)) (w.alloc (.cells (a.eval x).cells e)):=by
     simp [Instr.box,zPG]
    obtain ⟨r1,r2,r3,r4⟩:=zRf (T:= .s site) rfl (by simp [Tg.isM];omega) hv hs (Grew.alloc w (.cells (a.eval x).cells e)) (h5.one h3) (h5.cells h3)
    exact zFS run r4 r1 r2 r3
   ·cases hr
  ·cases hr
 | buildSlice t n parts=>
  simp only [trOp] at ht
  split at ht
  ·rename_i e os h1 h2
   split at ht
   ·rename_i j h3
    split at ht
    ·rename_i z h4
     split at ht
     ·rename_i h5
      simp only [Option.some.injEq] at ht;subst ht
      simp only [wop] at hr
      split at hr
      ·rename_i ps h6
       split at hr
       ·rename_i es h7
        simp only [Option.some.injEq,Prod.mk.injEq] at hr;obtain ⟨rfl,rfl,rfl⟩:=hr
        obtain ⟨i',zv,g1,g2,g3,g4,_⟩:=zIw h4
        rw [h3] at g1;cases g1
        exact zRX hv hs h1 h3 g2 g4 g3 h5.1 h5.2 h2 h6 h7 hc
       ·cases hr
      ·cases hr
     ·cases ht
    ·cases ht
   ·cases ht
  ·cases ht
 | convert sT dT x=>
  simp only [trOp] at ht
  split at ht
  ·simp only [Option.some.injEq] at ht;subst ht;cases hr
  ·simp only [Option.some.injEq] at ht;subst ht;cases hr
  ·simp only [Option.some.injEq] at ht;subst ht;cases hr
  ·split at ht
   ·simp only [Option.some.injEq] at ht;subst ht;cases hr
   ·cases ht
  ·rename_i e0 e x' h1 h2 h3
   split at ht
   ·rename_i h4
    split at ht
    ·rename_i h5;subst h5
     simp only [Option.some.injEq] at ht;subst ht
     simp only [wop] at hr
     split at hr
     ·rename_i t sz off es h5
      simp only [Option.some.injEq,Prod.mk.injEq] at hr;obtain ⟨rfl,rfl,rfl⟩:=hr
      exact zVr hv hs h2 h4 (hO _ _ _ h3 h5) hc
     ·cases hr
    ·cases ht
   ·cases ht
  ·rename_i e x' h1 h2 h3
   split at ht
   ·rename_i h4
    simp only [Option.some.injEq] at ht;subst ht
    simp only [wop] at hr
    split at hr
    ·rename_i s h5
     simp only [Option.some.injEq,Prod.mk.injEq] at hr;obtain ⟨rfl,rfl,rfl⟩:=hr
     have h6:=hO _ _ _ h3 h5
     simp only [VR,DR] at h6
     simp only [execOp,h6]
     exact zTR hv hs h1 h2 h4 s
    ·cases hr
   ·cases ht
  ·cases ht
 | makeSlice t l cc=>
  simp only [trOp] at ht
  split at ht
  ·rename_i e l' c' h1 h2 h3
   split at ht
   ·rename_i j z h4 h5
    simp only [Option.some.injEq] at ht;subst ht
    simp only [wop] at hr
    split at hr
    ·rename_i k n k' m h6 h7
     simp only [Option.some.injEq,Prod.mk.injEq] at hr;obtain ⟨rfl,rfl,rfl⟩:=hr
     have:=zWW (T:= .s site) (k:=k) (k':=k') hv hs h1 h4 h5 hc.1 hc.2.1 hc.2.2.1 hc.2.2.2
     simp only [execOp,zEm hO h2 h6,zEm hO h3 h7]
     exact this
    ·cases hr
   ·cases ht
  ·cases ht
 | store t x y=>
  simp only [trOp] at ht
  split at ht
  ·rename_i j x' y' h1 h2 h3
   simp only [Option.some.injEq] at ht;subst ht
   simp only [wop] at hr
   split at hr
   ·rename_i k o p h4 h5
    split at hr
    ·cases hr
    rename_i hM
    have hM':k.isM=false:=by simpa using hM
    split at hr
    ·rename_i cs h6
     split at hr
     ·rename_i h7
      simp only [Option.some.injEq,Prod.mk.injEq] at hr;obtain ⟨rfl,rfl,rfl⟩:=hr
      obtain ⟨c1,c2⟩:=hc
      have h8:=hO _ _ _ h2 h4
      simp only [VR] at h8
      obtain ⟨b,h9,h10⟩:=h8
      rw [zFg hM'] at h10
      obtain ⟨b',cc,el,fr,k1,k2,k3,k4,k5⟩:=hs.bxc (zEd h6) hM'
      rw [h9] at k1;cases k1
      have h11:=hO _ _ _ h3 h5
      have h12:=h11.cells h7
      have h13:=h12.length
      have h14:=k5.length
      simp only [Array.length_toList] at h13 h14
      have run:(Instr.storeAt t (a.eval x) (a.eval y)).run P w= .ok () (setBlk w b (.cells (laid cc o (a.eval y).cells.toList) el fr)):=by
       simp only [Instr.storeAt,Sem.run_bind,h10,Instr.sureAddr,Sem.run_pure,Result.andThen_ok]
       exact zML h1 k2 k3 (by omega) (by omega) (h11.one h7)
      have hbs:=(Array.getElem?_eq_some_iff.1 k2).1
      have hls:=zKx (c:=cc) (o:=o) (l:=(a.eval y).cells.toList) (by simp;omega)
      refine ⟨undef,setBlk w b (.cells (laid cc o (a.eval y).cells.toList) el fr),E, .inr ⟨by simp [execOp,run],rfl⟩,by simp [VR],hv.setBlk _ _, ?_,Step.setBlk hv _ (.inr ⟨k,h9⟩)⟩
      refine zWE hv hs hM' h9 ?_ ?_ ?_ hbs
      ·rcases k3 with k3 | k3
       ·exact .inl k3
       ·exact .inr (by rw [hls];exact k3)
      ·intro z hz
       rw [zNS] at hz
       simp only [zDQ,List.mem_append] at hz
       rcases hz with (hz | hz) | hz
       ·exact k4 z (List.mem_of_mem_take hz)
       ·exact h11.one h7 z hz
       ·exact k4 z (List.mem_of_mem_drop hz)
      ·rw [zNS]
       simp only [zDQ]
       refine VRs.append (VRs.append (VRs.take _ k5) h12) ?_
       rw [show (a.eval y).cells.toList.length=j.size by simp;omega]
       exact VRs.drop _ k5
     ·cases hr
    ·cases hr
   ·rename_i tg s i f e p h4 h5
    split at hr
    ·rename_i xd h6
     split at hr
     ·rename_i h7
      simp only [Option.some.injEq,Prod.mk.injEq] at hr;obtain ⟨rfl,rfl,rfl⟩:=hr
      obtain ⟨n1,n2,n3,n4⟩:=h7
      have hv1:=hv.frz p.tags
      have hs1:=hs.frz hv p.tags
      have hO1:=opdR hs1
      have h8:=hO _ _ _ h2 h4
      have h11:=hO _ _ _ h3 h5
      have hxd:DR (E.frz p.tags).prot w xd (a.eval y):=zYu h6 (fun t h=>h) h11
      simp only [VR] at h8
      obtain ⟨b,o,cc,el,fr,k1,k2,k3,k4,k5,_⟩:=h8
      have k1':(E.frz p.tags).row tg=some (b,o):=Env.frz_row.2 ⟨n1,k1⟩
      have hxs:=hxd.size
      have run:(Instr.storeAt t (a.eval x) (a.eval y)).run P w= .ok () (setBlk w b (.cells (laid cc (o+i*s+f.getD 0) (a.eval y).cells.toList) el fr)):=by
       simp only [Instr.storeAt,Sem.run_bind,k2,Instr.sureAddr,Sem.run_pure,Result.andThen_ok]
       exact zML h1 k3 k4 (by omega) (by omega) hxd.one
      have hbs:=(Array.getElem?_eq_some_iff.1 k3).1
      have hno:¬(E.frz p.tags).prot b:=(hv1.row_lt _ _ _ k1').2
      refine ⟨undef,setBlk w b (.cells (laid cc (o+i*s+f.getD 0) (a.eval y).cells.toList) el fr),E.frz p.tags, .inr ⟨by simp [execOp,run],rfl⟩,by simp [VR],hv1.setBlk _ _, ?_,(Step.frz hv _).trans (Step.setBlk hv1 _ (.inl ⟨_,_,k1'⟩))⟩
      refine hs1.map (E':=E.frz p.tags) (f:=updF tg s i (zEP f xd)) (fun _ h=>h) (fun q hq=>by rw [zAQ,if_neg (fun e=>by subst e;exact hno hq)]) (fun q u hl hq=>zWO hv1 k1' k3 hxd (by omega) (fun hf=>by rw [hc];exact n3 hf) (by omega) k5 hl hq)
       (fun k cs hm b' hb'=>⟨hb',by rw [zAQ,if_neg (fun e=>by subst e;exact hv1.row_box _ _ _ _ k1' hb')]⟩)
     ·cases hr
    ·cases hr
   ·cases hr
  ·cases ht
 | call cl=>
  obtain ⟨callee,args,argTypes⟩:=cl
  simp only [trOp] at ht
  split at ht
  case h_5=>
   split at ht
   ·rename_i t u x y g1 g2
    have e1:argTypes= #[t,u]:=by cases argTypes;simp_all
    have e2:args= #[x,y]:=by cases args;simp_all
    subst e1;subst e2
    split at ht
    ·rename_i e e' x' y' h1 h2 h3 h4
     split at ht
     ·rename_i j z h5 h6
      simp only [Option.some.injEq] at ht;subst ht
      have key:∀{tg off es ys},VR E w (.sl tg j.size off es) (a.eval x)→(st.val y').bind (zDk j.size)=some ys→es.length+ys.length≤140737488355328→(es.length+ys.length)*j.bytes≤140737488355328→
        (∀e∈ys,e.sz=j.size)→Does P E w ((st.rebind tg).rebind (.s site)) a.tmps (execOp a.eval ⟨dst, .call ⟨.builtin .append,#[x,y],#[t,u]⟩,type,pos,after,guard⟩) (.sl (.s site) j.size 0 (es++ys)):=by
       intro tg off es ys hx hy g1 g2 g3
       rw [Option.bind_eq_some_iff] at hy
       obtain ⟨yp,hy1,hy2⟩:=hy
       obtain ⟨r,w',E',q1,q2,q3,q4,q5⟩:=zVW (T:= .s site) (ty:=type) hv hs h1 h2 h5 h6 hx (hO _ _ _ h4 hy1) hy2 g1 g2 g3
       exact ⟨r,w',E', .inl (by simp [execOp,resolve,invoke,builtin,q1]),q2,q3,q4,q5⟩
      simp only [wop] at hr
      split at hr
      ·rename_i ys h7 h8
       simp only [Option.some.injEq,Prod.mk.injEq] at hr;obtain ⟨rfl,rfl,rfl⟩:=hr
       have h9:=hO _ _ _ h3 h7
       simp only [VR] at h9
       have h10:VR E w (.sl (.s site) j.size 0 []) (a.eval x):=by simp only [VR];exact .inl ⟨trivial,none,h9⟩
       have:=key h10 h8 (by simpa using hc.1) (by simpa using hc.2.1) hc.2.2
       rw [List.nil_append] at this
       exact this
      ·rename_i tg s off es ys h7 h8
       split at hr
       ·rename_i hs';subst hs'
        simp only [Option.some.injEq,Prod.mk.injEq] at hr;obtain ⟨rfl,rfl,rfl⟩:=hr
        exact key (hO _ _ _ h3 h7) h8 hc.1 hc.2.1 hc.2.2
       ·cases hr
      ·cases hr
     ·cases ht
    ·rename_i e ku x' y' h1 h2 h3 h4
     split at ht
     ·rename_i j z h5 h6
      simp only [Option.some.injEq] at ht;subst ht
      simp only [wop] at hr
      split at hr
      ·rename_i k n h7 h8
       simp only [Option.some.injEq,Prod.mk.injEq] at hr;obtain ⟨rfl,rfl,rfl⟩:=hr
       have h9:=hO _ _ _ h3 h7
       simp only [VR] at h9
       have:=zU9 (T:= .s site) (ty:=type) (k:=k) hv hs h1 h2 h5 h6 hc.1 hc.2.1 hc.2.2
       obtain ⟨r,w',E',q1,q2,q3,q4,q5⟩:=this
       refine ⟨r,w',E', ?_,q2,q3,q4,q5⟩
       simpa [execOp,resolve,invoke,builtin,h9,zEm hO h4 h8] using q1
      ·cases hr
     ·cases ht
    ·cases ht
   ·cases ht
  case h_6=>
   split at ht
   ·rename_i t u x y g1 g2
    have e1:argTypes= #[t,u]:=by cases argTypes;simp_all
    have e2:args= #[x,y]:=by cases args;simp_all
    subst e1;subst e2
    split at ht
    ·rename_i e x' y' h1 h3 h4
     simp only [Option.map_eq_some_iff] at ht
     obtain ⟨j,h5,rfl⟩:=ht
     simp only [wop] at hr
     split at hr
     ·rename_i tg s off es yp h7 h8
      split at hr
      ·rename_i ys h9
       split at hr
       ·rename_i hs';obtain ⟨rfl,_⟩:=hs'
        simp only [Option.some.injEq,Prod.mk.injEq] at hr;obtain ⟨rfl,rfl,rfl⟩:=hr
        obtain ⟨w',q1,q2,q3,q4⟩:=zVz (ty:=type) (u:=u) hv hs h1 h5 (hO _ _ _ h3 h7) (hO _ _ _ h4 h8) h9 hc
        exact ⟨.int .i64 ((min es.length ys.length:Nat):Int),w',E, .inl (by simp only [execOp,resolve,invoke,builtin];simp [q1]),by simp [VR,DR],q2,q3,q4⟩
       ·cases hr
      ·cases hr
     ·cases hr
    ·cases ht
   ·cases ht
  all_goals (repeat' split at ht)<;>first | (cases ht;done) | (simp only [Option.map_eq_some_iff,Option.some.injEq] at ht;obtain ⟨_,_,rfl⟩:=ht;cases hr;done) | (simp only [Option.some.injEq] at ht;subst ht;cases hr;done)
 | _=>
  simp only [trOp] at ht
  (repeat' split at ht)<;>first | (cases ht;done) | (simp only [Option.map_eq_some_iff,Option.some.injEq] at ht;obtain ⟨_,_,rfl⟩:=ht;cases hr;done) | (simp only [Option.some.injEq] at ht;subst ht;cases hr;done)
end
end Go.Proofs.YtnmlihfpenjeiaaGreat.Abs
