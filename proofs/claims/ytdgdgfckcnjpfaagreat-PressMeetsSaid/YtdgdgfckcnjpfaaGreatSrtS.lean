/- slices.Sort turns a row in its place. Conditions: none. -/
import Derived.Test.YtdgdgfckcnjpfaaGreatAbsG8
import Derived.Test.YtdgdgfckcnjpfaaGreatShelf
namespace Go.Proofs.YtdgdgfckcnjpfaaGreat.Abs
open Go Go.RowKit Z
set_option linter.unusedVariables false
set_option linter.unusedSimpArgs false
set_option maxRecDepth 100000
theorem zAbF {α:Type} [Inhabited α] (enc:α→Value) (c:Array Value) (p:Nat) (l:List α) (h:p+l.length≤c.size):Sort.putCells enc p l.toArray c=laid c p (l.map enc):=by
 apply Array.ext_getElem?
 intro k
 simp only [Sort.putCells,laid,Array.getElem?_mapIdx,List.getElem?_toArray,List.getElem?_append,List.getElem?_take,List.getElem?_drop,List.length_append,List.length_take,List.length_map,List.size_toArray,Array.length_toList,Array.getElem?_toList]
 by_cases hk:k<c.size
 ·rw [Array.getElem?_eq_getElem hk]
  simp only [Option.map_some]
  by_cases h1:k<p
  ·rw [if_neg (by omega),if_pos (by omega),if_pos (by omega),if_pos h1]
  ·by_cases h2:k<p+l.length
   ·rw [if_pos ⟨by omega,h2⟩,if_pos (by omega),if_neg (by omega),List.getElem?_map,show k-min p c.size=k-p by omega]
    have:k-p<l.length:=by omega
    rw [List.getElem?_eq_getElem this,Option.map_some]
    congr 2
    rw [getElem!_pos _ _ (by simpa using this)];simp
   ·rw [if_neg (by omega),if_neg (by omega)]
    rw [show p+l.length+(k-(min p c.size+l.length))=k by omega,Array.getElem?_eq_getElem hk]
 ·rw [Array.getElem?_eq_none (by omega),if_neg (by omega),Array.getElem?_eq_none (by omega)]
  rfl
theorem zYF {α:Type} [Inhabited α] (enc:α→Value) {w:World} {b p:Nat} {l:List α} (n:Nat) (os:Array Obj) {c:Array Value} {el:TypeId} {fr:Nat×Nat} (hb:w.heap[b]? =some (.cells c el fr)) (h:p+l.length≤c.size):
  zNA (setBlk w b (.cells (laid c p (l.map enc)) el fr)) (Sort.grow (Sort.putRow enc (Sort.ahead w n) b p l.toArray) os):=by
 have hbs:=(Array.getElem?_eq_some_iff.1 hb).1
 refine ⟨rfl,rfl,rfl, ?_,Nat.le_add_right _ _,fun k hk=> ?_⟩
 ·rw [zDX]
  simp only [Sort.grow,Sort.putRow,Sort.mapBlock,Array.size_append,Array.size_modify]
  exact Nat.le_add_right _ _
 ·rw [zDX] at hk
  simp only [Sort.grow,Sort.putRow,Sort.mapBlock]
  rw [Array.getElem?_append_left (by rw [Array.size_modify];exact hk),Array.getElem?_modify,zAA]
  by_cases e:b=k
  ·subst e
   have hb':(Sort.ahead w n).heap[b]? =some (.cells c el fr):=hb
   rw [if_pos rfl,if_pos rfl,if_pos hbs,hb']
   simp only [Option.map_some,Sort.onCells,zAbF enc c p l h]
  ·rw [if_neg e,if_neg (fun h=>e h.symm)]
   rfl
theorem zX1 {pr:Nat→Prop} {w:World} {k:IntKind}:∀{l:List Int} {vs:List Value},DRs pr w (l.map (D.int k)) vs→vs=l.map (Value.int k)
 | [],vs,h=>by simpa only [List.map_nil,DRs] using h
 | x::l,vs,h=>by
  simp only [List.map_cons,DRs] at h
  obtain ⟨u,us,rfl,h1,h2⟩:=h
  simp only [DR] at h1
  rw [h1,zX1 h2,List.map_cons]
theorem zYt {pr:Nat→Prop} {w:World} {k:IntKind}:∀(l:List Int),DRs pr w (l.map (D.int k)) (l.map (Value.int k))
 | []=>by simp only [List.map_nil,DRs]
 | x::l=>by
  simp only [List.map_cons,DRs]
  exact ⟨_,_,rfl,by simp only [DR],zYt l⟩
theorem zY7 {k:IntKind}:∀(l:List Int),flat (l.map (Value.int k))=l.map (Value.int k)
 | []=>rfl
 | x::l=>by
  have:=zY7 (k:=k) l
  simp only [flat,List.map_cons,List.flatMap_cons] at this⊢
  rw [this];rfl
theorem zZi {w:World} {b p:Nat} {l:List Int} {c:Array Value} {el:TypeId} {fr:Nat×Nat} (hb:w.heap[b]? =some (.cells c el fr)) (hf:Unfz c fr) (hp:p+l.length≤c.size) (h:zAn w b p (l.map (Value.int .i64))):
  Sort.Holds (Value.int .i64) w b p l.toArray:=by
 intro j hj
 have hj':j<l.length:=by simpa using hj
 refine ⟨?_, ?_⟩
 ·have e:(l.toArray)[j]! =l[j]:=by rw [getElem!_pos l.toArray j hj];simp
  exact h j _ (by rw [e,List.getElem?_map,List.getElem?_eq_getElem hj'];rfl)
 ·simp only [World.frozen?,hb]
  rcases hf with hf | hf
  ·simp;omega
  ·simp;omega
def zFc (l:List Int):Option (List Int):=if l.length<4611686018427387904 then some (l.mergeSort fun x y=>decide (x≤y)) else none
noncomputable def zBK (l:List Int):SgI Tryz.prog (List Int) Int:=⟨177,zFc l,eI,l,[],fun v=>v,fun _=>none⟩
theorem zPa (l:List Int):(zBK l).Holds:=by
 intro v hv
 simp only [zBK,zFc] at hv
 split at hv
 rotate_left
 ·cases hv
 rename_i hl
 cases hv
 refine ⟨⟨_,Tryz.func177,rfl,by kernel_rfl⟩,by simp [zBK], ?_⟩
 intro E w t off u us vs hV hu hx hvs
 simp only [zBK,DRs] at hx
 subst hx
 have e:vs= #[u]:=by apply Array.ext';rw [hvs]
 subst e
 simp only [zBK,VR] at hu
 rcases hu with ⟨h0,a,rfl⟩ | ⟨b,o,cap,c,el,fr,ws,h1,rfl,h3,h4,h5,h6,h7,h8,h9⟩
 ·have hn:l=[]:=by simpa using h0
  subst hn
  refine (Tryz.slices_Sort_int_none a 0 w).mono ?_
  rintro e w' ⟨rfl,rfl⟩
  refine ⟨_,w',rfl, .inl ⟨by simp [zBK],rfl⟩,⟨rfl,rfl,rfl,Nat.le_refl _,Nat.le_refl _,fun _ _=>rfl⟩, ?_⟩
  simp only [zBK,resI,VR,VRs]
  exact ⟨_,rfl,rfl⟩
 ·have hw:=zX1 h9
  subst hw
  simp only [List.length_map] at h3⊢
  have hp:o+off*1+l.length≤c.size:=by simp only [eK] at h6;omega
  rw [zY7] at h8
  have hm:(l.mergeSort fun x y=>decide (x≤y)).length=l.length:=by simp
  refine (Tryz.slices_Sort_int b (o+off*1) cap l w (zZi h4 h5 hp h8) (Array.getElem?_eq_some_iff.1 h4).1 hl).mono ?_
  rintro e w' ⟨rfl,n,os,rfl⟩
  refine ⟨_,setBlk w b (.cells (laid c (o+off*1) ((l.mergeSort fun x y=>decide (x≤y)).map (Value.int .i64))) el fr),rfl, .inr ⟨b,o,c,el,fr,(l.mergeSort fun x y=>decide (x≤y)).map (Value.int .i64),h1,h4,zYt _, ?_, ?_, ?_⟩,zYF _ _ _ h4 (by omega), ?_⟩
  ·intro u hu
   obtain ⟨x,_,rfl⟩:=List.mem_map.1 hu
   rfl
  ·simp only [zBK,eK,List.length_map];omega
  ·rw [zY7];rfl
  ·simp only [zBK,resI,VR,VRs]
   exact ⟨_,rfl,rfl⟩
end Go.Proofs.YtdgdgfckcnjpfaaGreat.Abs
