/- Plain facts: frames, part 5. Conditions: none. -/
import Derived.Test.YtdgdgfckcnjpfaaGreatPG4
namespace Go.Proofs.YtdgdgfckcnjpfaaGreat.Abs
open Go Go.RowKit Go.IntWalk Crc
set_option linter.unusedVariables false
set_option linter.unusedSimpArgs false
set_option linter.unusedSectionVars false
set_option linter.unnecessarySimpa false
set_option maxRecDepth 100000
set_option linter.unnecessarySimpa false
set_option linter.unusedSimpArgs false
set_option maxRecDepth 100000
def b01 (v:Bool):Int:=if v then 1 else 0
theorem zV7 (l:List Bool) (hl:l.length≤4096):∀(t:List Bool) (k:Nat),l.drop k=t→zCa l (k:Int) ((l.take k).map b01++List.replicate t.length 0)=some (l.map b01)
 | [],k,h1=>by
  have hk:l.length≤k:=List.drop_eq_nil_iff.1 h1
  rw [zCa,if_neg (zAI h1),List.take_of_length_le hk];simp
 | v::t,k,h1=>by
  have g1:=zAm h1
  have hk:k<l.length:=by omega
  have hlen:((l.take k).map b01++List.replicate (v::t).length (0:Int)).length=l.length:=by
   have:=congrArg List.length h1
   simp at this⊢;omega
  have htk:(l.take (k+1)).map b01=(l.take k).map b01++[b01 v]:=by
   rw [List.take_add_one,List.map_append]
   have:l[k]? =some v:=by
    have h2:=congrArg (·[0]?) h1
    simpa using h2
   rw [this];rfl
  have hlk:((l.take k).map b01).length=k:=by simp;omega
  have hset:((l.take k).map b01++List.replicate (v::t).length (0:Int)).set k (b01 v)=(l.take (k+1)).map b01++List.replicate t.length 0:=by
   rw [List.set_append_right _ _ (by omega),hlk,Nat.sub_self,List.length_cons,List.replicate_succ,List.set_cons_zero,htk,List.append_assoc];rfl
  have ih:=zV7 l hl t (k+1) g1.2.2
  rw [zCa,if_pos g1.1,if_pos (by omega),g1.2.1]
  cases v with
  | true=>
   rw [if_pos rfl,if_pos (by omega),zA6 (by omega),Int.toNat_natCast]
   have:(1:Int)=b01 true:=rfl
   rw [this,hset];exact ih
  | false=>
   rw [if_neg (by simp),zA6 (by omega)]
   have h0:((l.take k).map b01++List.replicate (false::t).length (0:Int))=(l.take (k+1)).map b01++List.replicate t.length 0:=by
    rw [htk,List.length_cons,List.replicate_succ,List.append_assoc];rfl
   rw [h0];exact ih
def zFt (l:List Bool):List Int:=zEK (zAQ 1) 1 l.length (l.map b01)
def zYP (d:Nat) (b:List Int):List Bool:=(zAK (zAQ 1) 1 d b).map fun x=>x==1
theorem zAav (l:List Bool):∀x∈l.map b01,0≤x∧x.toNat<2 ^ 1:=by
 intro x hx
 obtain ⟨v,_,rfl⟩:=List.mem_map.1 hx
 cases v<;>simp [b01]
theorem zWw {l:List Bool} (hl:l.length≤4096):zF4 l=some (zFt l,0):=by
 rw [zF4,if_pos (by omega),zAb,Int.toNat_natCast]
 have:=zV7 l hl l 0 rfl
 simp only [List.take_zero,List.map_nil,List.nil_append] at this
 erw [this]
 rw [zAb,zLH,zGC,zAb]
 have h2:=zAct (w:=1) (d:=l.length) (by omega) hl (l:=l.map b01) (by simp) (zAav l)
 erw [h2];rfl
theorem zYs (r1:List Int×Int) (hl:r1.1.length≤4096):∀(t:List Int) (k:Nat),r1.1.drop k=t→zDc r1 (k:Int) ((r1.1.take k).map (fun x=>x==1)++List.replicate t.length false)=some (r1.1.map fun x=>x==1)
 | [],k,h1=>by
  have hk:r1.1.length≤k:=List.drop_eq_nil_iff.1 h1
  rw [zDc,if_neg (zAI h1),List.take_of_length_le hk];simp
 | v::t,k,h1=>by
  have g1:=zAm h1
  have hk:k<r1.1.length:=by omega
  have hlen:((r1.1.take k).map (fun x=>x==1)++List.replicate (v::t).length false).length=r1.1.length:=by
   have:=congrArg List.length h1
   simp at this⊢;omega
  have htk:(r1.1.take (k+1)).map (fun x=>x==1)=(r1.1.take k).map (fun x=>x==1)++[v==1]:=by
   rw [List.take_add_one,List.map_append]
   have:r1.1[k]? =some v:=by
    have h2:=congrArg (·[0]?) h1
    simpa using h2
   rw [this];rfl
  have hlk:((r1.1.take k).map (fun x=>x==1)).length=k:=by simp;omega
  have hset:((r1.1.take k).map (fun x=>x==1)++List.replicate (v::t).length false).set k (v==1)=(r1.1.take (k+1)).map (fun x=>x==1)++List.replicate t.length false:=by
   rw [List.set_append_right _ _ (by omega),hlk,Nat.sub_self,List.length_cons,List.replicate_succ,List.set_cons_zero,htk,List.append_assoc];rfl
  rw [zDc,if_pos g1.1,if_pos (by omega),g1.2.1,if_pos (by omega),zAb,zA6 (by omega),Int.toNat_natCast,hset]
  exact zYs r1 hl t (k+1) g1.2.2
theorem zAcO {d:Nat} (hd:d≤4096) {b:List Int} (hu:U8s b) (hb:b.length=bytesOf 1 d):zHV (d:Int) b=some (if zJG 1 d b then (zYP d b,0) else ([],6)):=by
 have h2:=zAa9 (w:=1) (d:=d) (by omega) hd hu hb
 rw [zHV,zJq,zGC,zAb]
 erw [h2]
 rw [zAb,zAb]
 by_cases ht:zJG 1 d b
 ·simp only [if_pos ht]
  have hlen:(zAK (zAQ 1) 1 d b).length=d:=zCX _ _ _ _
  rw [if_neg (by simp),if_pos (by omega),zAb,Int.toNat_natCast]
  have:=zYs (zAK (zAQ 1) 1 d b,0) (by show (zAK (zAQ 1) 1 d b).length≤4096;omega) (zAK (zAQ 1) 1 d b) 0 rfl
  simp only [List.take_zero,List.map_nil,List.nil_append] at this
  erw [this];rfl
 ·simp only [if_neg ht];rfl
theorem zXj (l:List Bool):zYP l.length (zFt l)=l:=by
 unfold zYP zFt
 rw [zVp (zLK 1 l.length) (by simp) (zAav l),List.map_map]
 conv=>rhs;rw [←List.map_id l]
 exact List.map_congr_left fun v _=>by cases v<;>rfl
theorem zEA (l:List Bool):(zFt l).length=bytesOf 1 l.length:=zFO _ _ _ _
theorem zPj (l:List Bool):U8s (zFt l):=zPe _ _ _ _
theorem zAaY {n w:Nat}:wid n≤w↔n<2 ^ w:=by
 unfold wid
 split
 ·rename_i h;subst h;simp [Nat.two_pow_pos]
 ·rename_i h
  rw [show n.log2+1≤w↔n.log2<w by omega]
  exact Nat.log2_lt h
inductive MayS (s:zAc):Prop where
 | dense (d0:0<s.F_Dim) (d1:s.F_Dim≤4096) (h:s.F_Scheme=0) (v:(s.F_V.length:Int)=s.F_Dim) (z:s.F_L=[]∧s.F_Scale=0∧s.F_Wide=0∧s.F_Lev=[]∧s.F_Neg=[])
 | top (d0:0<s.F_Dim) (d1:s.F_Dim≤4096) (h:s.F_Scheme=1) (c:zC6 s.F_Dim s.F_L=0) (v:s.F_L.length=s.F_V.length) (z:s.F_Scale=0∧s.F_Wide=0∧s.F_Lev=[]∧s.F_Neg=[])
 | level (d0:0<s.F_Dim) (d1:s.F_Dim≤4096) (h:s.F_Scheme=2) (w0:0<s.F_Wide) (w1:s.F_Wide≤8) (l:(s.F_Lev.length:Int)=s.F_Dim) (x:∀n∈s.F_Lev,n.toNat<2 ^ s.F_Wide.toNat) (c:0≤s.F_Scale) (n:(s.F_Neg.length:Int)=s.F_Dim) (z:s.F_L=[]∧s.F_V=[])
 | sign (d0:0<s.F_Dim) (d1:s.F_Dim≤4096) (h:s.F_Scheme=3) (c:0≤s.F_Scale) (n:(s.F_Neg.length:Int)=s.F_Dim) (z:s.F_L=[]∧s.F_V=[]∧s.F_Wide=0∧s.F_Lev=[])
theorem zEz {s:zAc}:mayP s=true↔MayS s:=by
 constructor
 ·intro h
  by_cases c0:s.F_Scheme=0
  ·simp [mayP,zC4,c0,zB7,zGY] at h
   exact .dense h.1.1.1 h.1.1.2 c0 h.1.2 h.2
  by_cases c1:s.F_Scheme=1
  ·simp [mayP,zC4,c0,c1,zB7,zGY] at h
   exact .top h.1.1.1.1 h.1.1.1.2 c1 h.1.1.2 (by omega) h.2
  by_cases c2:s.F_Scheme=2
  ·simp [mayP,zC4,c0,c1,c2,zB7,zGY] at h
   obtain ⟨⟨⟨⟨⟨⟨⟨⟨a,b⟩,c⟩,d⟩,e⟩,f⟩,g⟩,i⟩,z⟩:=h
   exact .level a b c2 c d e (fun n hn=>zAaY.1 (by have:=f n hn;omega)) g i z
  by_cases c3:s.F_Scheme=3
  ·simp [mayP,zC4,c0,c1,c2,c3,zB7,zGY] at h
   obtain ⟨⟨⟨⟨a,b⟩,c⟩,d⟩,z⟩:=h
   exact .sign a b c3 c d z
  ·simp [mayP,zC4,c0,c1,c2,c3] at h
 ·rintro (⟨d0,d1,h,v,z⟩ | ⟨d0,d1,h,c,v,z⟩ | ⟨d0,d1,h,w0,w1,l,x,c,n,z⟩ | ⟨d0,d1,h,c,n,z⟩)
  ·simp [mayP,zC4,h,zB7,zGY];exact ⟨⟨⟨d0,d1⟩,v⟩,z⟩
  ·simp [mayP,zC4,h,zB7,zGY];exact ⟨⟨⟨⟨d0,d1⟩,c⟩,by omega⟩,z⟩
  ·simp [mayP,zC4,h,zB7,zGY];exact ⟨⟨⟨⟨⟨⟨⟨⟨d0,d1⟩,w0⟩,w1⟩,l⟩,fun n hn=>by have:=zAaY.2 (x n hn);omega⟩,c⟩,n⟩,z⟩
  ·simp [mayP,zC4,h,zB7,zGY];exact ⟨⟨⟨⟨d0,d1⟩,c⟩,n⟩,z⟩
def zGX (s:zAc):List Int:=
 if s.F_Scheme=0 then sigB s.F_V
 else if s.F_Scheme=1 then putB s.F_Dim s.F_L++sigB s.F_V
 else if s.F_Scheme=2 then lebP s.F_Scale++([s.F_Wide]++(zEK (pWov s.F_Dim.toNat) s.F_Wide.toNat s.F_Dim.toNat s.F_Lev++zFt s.F_Neg))
 else lebP s.F_Scale++zFt s.F_Neg
def zFS (s:zAc):List Int:=[s.F_Scheme]++(lebP s.F_Dim++zGX s)
end Go.Proofs.YtdgdgfckcnjpfaaGreat.Abs
