/- Plain facts: frames, part 5. Conditions: none. -/
import Derived.Test.YtdgdgfckcnjpfaaGreatPG4
namespace Go.Proofs.YtdgdgfckcnjpfaaGreat.Abs
open Go Go.RowKit Go.IntWalk Crc
set_option linter.unusedVariables false
set_option linter.unusedSimpArgs false
set_option linter.unusedSectionVars false
set_option linter.unnecessarySimpa false
set_option maxRecDepth 100000
set_option linter.unnecessarySimpa false
set_option linter.unusedSimpArgs false
set_option maxRecDepth 100000
def b01 (v:Bool):Int:=if v then 1 else 0
theorem zYE (l:List Bool) (hl:l.length≤4096):∀(t:List Bool) (k:Nat),l.drop k=t→zCt l (k:Int) ((l.take k).map b01++List.replicate t.length 0)=some (l.map b01)
 | [],k,h1=>by
  have hk:l.length≤k:=List.drop_eq_nil_iff.1 h1
  rw [zCt,if_neg (zAp h1),List.take_of_length_le hk];simp
 | v::t,k,h1=>by
  have g1:=zAh h1
  have hk:k<l.length:=by omega
  have hlen:((l.take k).map b01++List.replicate (v::t).length (0:Int)).length=l.length:=by
   have:=congrArg List.length h1
   simp at this⊢;omega
  have htk:(l.take (k+1)).map b01=(l.take k).map b01++[b01 v]:=by
   rw [List.take_add_one,List.map_append]
   have:l[k]? =some v:=by
    have h2:=congrArg (·[0]?) h1
    simpa using h2
   rw [this];rfl
  have hlk:((l.take k).map b01).length=k:=by simp;omega
  have hset:((l.take k).map b01++List.replicate (v::t).length (0:Int)).set k (b01 v)=(l.take (k+1)).map b01++List.replicate t.length 0:=by
   rw [List.set_append_right _ _ (by omega),hlk,Nat.sub_self,List.length_cons,List.replicate_succ,List.set_cons_zero,htk,List.append_assoc];rfl
  have ih:=zYE l hl t (k+1) g1.2.2
  rw [zCt,if_pos g1.1,if_pos (by omega),g1.2.1]
  cases v with
  | true=>
   rw [if_pos rfl,if_pos (by omega),zAx (by omega),Int.toNat_natCast]
   have:(1:Int)=b01 true:=rfl
   rw [this,hset];exact ih
  | false=>
   rw [if_neg (by simp),zAx (by omega)]
   have h0:((l.take k).map b01++List.replicate (false::t).length (0:Int))=(l.take (k+1)).map b01++List.replicate t.length 0:=by
    rw [htk,List.length_cons,List.replicate_succ,List.append_assoc];rfl
   rw [h0];exact ih
def zIt (l:List Bool):List Int:=zE1 (zF1 1) 1 l.length (l.map b01)
theorem zAek (l:List Bool):∀x∈l.map b01,0≤x∧x.toNat<2 ^ 1:=by
 intro x hx
 obtain ⟨v,_,rfl⟩:=List.mem_map.1 hx
 cases v<;>simp [b01]
theorem zYl {l:List Bool} (hl:l.length≤4096):zGx l=some (zIt l,0):=by
 rw [zGx,if_pos (by omega),zAb,Int.toNat_natCast]
 have:=zYE l hl l 0 rfl
 simp only [List.take_zero,List.map_nil,List.nil_append] at this
 erw [this]
 rw [zAb,zLK,zLM,zAb]
 have h2:=zAdG (w:=1) (d:=l.length) (by omega) hl (l:=l.map b01) (by simp) (zAek l)
 erw [h2];rfl
theorem zLr (l:List Bool):(zIt l).length=bytesOf 1 l.length:=zF2 _ _ _ _
theorem zUY {n w:Nat}:wid n≤w↔n<2 ^ w:=by
 unfold wid
 split
 ·rename_i h;subst h;simp [Nat.two_pow_pos]
 ·rename_i h
  rw [show n.log2+1≤w↔n.log2<w by omega]
  exact Nat.log2_lt h
inductive MayS (s:zAc):Prop where
 | dense (d0:0<s.F_Dim) (d1:s.F_Dim≤4096) (h:s.F_Scheme=0) (v:(s.F_V.length:Int)=s.F_Dim) (z:s.F_L=[]∧s.F_Scale=0∧s.F_Wide=0∧s.F_Lev=[]∧s.F_Neg=[])
 | top (d0:0<s.F_Dim) (d1:s.F_Dim≤4096) (h:s.F_Scheme=1) (c:zCh s.F_Dim s.F_L=0) (v:s.F_L.length=s.F_V.length) (z:s.F_Scale=0∧s.F_Wide=0∧s.F_Lev=[]∧s.F_Neg=[])
 | level (d0:0<s.F_Dim) (d1:s.F_Dim≤4096) (h:s.F_Scheme=2) (w0:0<s.F_Wide) (w1:s.F_Wide≤8) (l:(s.F_Lev.length:Int)=s.F_Dim) (x:∀n∈s.F_Lev,n.toNat<2 ^ s.F_Wide.toNat) (c:0≤s.F_Scale) (n:(s.F_Neg.length:Int)=s.F_Dim) (z:s.F_L=[]∧s.F_V=[])
 | sign (d0:0<s.F_Dim) (d1:s.F_Dim≤4096) (h:s.F_Scheme=3) (c:0≤s.F_Scale) (n:(s.F_Neg.length:Int)=s.F_Dim) (z:s.F_L=[]∧s.F_V=[]∧s.F_Wide=0∧s.F_Lev=[])
theorem zEL {s:zAc}:mayP s=true↔MayS s:=by
 constructor
 ·intro h
  by_cases c0:s.F_Scheme=0
  ·simp [mayP,zCf,c0,zCb,zEz] at h
   exact .dense h.1.1.1 h.1.1.2 c0 h.1.2 h.2
  by_cases c1:s.F_Scheme=1
  ·simp [mayP,zCf,c0,c1,zCb,zEz] at h
   exact .top h.1.1.1.1 h.1.1.1.2 c1 h.1.1.2 (by omega) h.2
  by_cases c2:s.F_Scheme=2
  ·simp [mayP,zCf,c0,c1,c2,zCb,zEz] at h
   obtain ⟨⟨⟨⟨⟨⟨⟨⟨a,b⟩,c⟩,d⟩,e⟩,f⟩,g⟩,i⟩,z⟩:=h
   exact .level a b c2 c d e (fun n hn=>zUY.1 (by have:=f n hn;omega)) g i z
  by_cases c3:s.F_Scheme=3
  ·simp [mayP,zCf,c0,c1,c2,c3,zCb,zEz] at h
   obtain ⟨⟨⟨⟨a,b⟩,c⟩,d⟩,z⟩:=h
   exact .sign a b c3 c d z
  ·simp [mayP,zCf,c0,c1,c2,c3] at h
 ·rintro (⟨d0,d1,h,v,z⟩ | ⟨d0,d1,h,c,v,z⟩ | ⟨d0,d1,h,w0,w1,l,x,c,n,z⟩ | ⟨d0,d1,h,c,n,z⟩)
  ·simp [mayP,zCf,h,zCb,zEz];exact ⟨⟨⟨d0,d1⟩,v⟩,z⟩
  ·simp [mayP,zCf,h,zCb,zEz];exact ⟨⟨⟨⟨d0,d1⟩,c⟩,by omega⟩,z⟩
  ·simp [mayP,zCf,h,zCb,zEz];exact ⟨⟨⟨⟨⟨⟨⟨⟨d0,d1⟩,w0⟩,w1⟩,l⟩,fun n hn=>by have:=zUY.2 (x n hn);omega⟩,c⟩,n⟩,z⟩
  ·simp [mayP,zCf,h,zCb,zEz];exact ⟨⟨⟨⟨d0,d1⟩,c⟩,n⟩,z⟩
def zJO (s:zAc):List Int:=
 if s.F_Scheme=0 then sigB s.F_V
 else if s.F_Scheme=1 then putB s.F_Dim s.F_L++sigB s.F_V
 else if s.F_Scheme=2 then lebP s.F_Scale++([s.F_Wide]++(zE1 (pWov s.F_Dim.toNat) s.F_Wide.toNat s.F_Dim.toNat s.F_Lev++zIt s.F_Neg))
 else lebP s.F_Scale++zIt s.F_Neg
def zMU (s:zAc):List Int:=[s.F_Scheme]++(lebP s.F_Dim++zJO s)
end Go.Proofs.YtdgdgfckcnjpfaaGreat.Abs
