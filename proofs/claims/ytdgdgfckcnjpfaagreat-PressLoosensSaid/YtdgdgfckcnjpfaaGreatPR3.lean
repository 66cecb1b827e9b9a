/- Plain facts: the document's bodies. Conditions: none. -/
import Derived.Test.YtdgdgfckcnjpfaaGreatPR2
import Derived.Test.YtdgdgfckcnjpfaaGreatPHe
namespace Go.Proofs.YtdgdgfckcnjpfaaGreat.Abs
open Go Go.RowKit Go.IntWalk Crc
set_option linter.unusedVariables false
set_option linter.unusedSimpArgs false
set_option linter.unusedSectionVars false
set_option linter.unnecessarySimpa false
set_option maxRecDepth 100000
set_option linter.unnecessarySimpa false
set_option linter.unusedSimpArgs false
set_option linter.unusedSectionVars false
set_option maxRecDepth 100000
theorem zWu (s:zAc) (j2:Bool) (hl:s.F_Lev.length≤4611686018427387904) (hu:∀n∈s.F_Lev,0≤n∧n≤18446744073709551615):∀(t:List Int) (k:Nat),s.F_Lev.drop k=t→zB1 s j2 (k:Int)=some (if (t.all fun n=>decide ((wid n.toNat:Int)≤s.F_Wide))=true then .inr () else .inl false)
 | [],k,h=>by rw [zB1,if_neg (zAp h)];rfl
 | x::t,k,h=>by
  obtain ⟨h1,h2,h3⟩:=zAh h
  have hm:x∈s.F_Lev:=by
   have:x∈s.F_Lev.drop k:=by rw [h];simp
   exact List.mem_of_mem_drop this
  rw [zB1,if_pos h1,if_pos ⟨by omega,h1⟩,h2,zSy (hu x hm),zAb,zAx (by omega),zWu s j2 hl hu t (k+1) h3,List.all_cons]
  by_cases hw:((wid x.toNat:Nat):Int)>s.F_Wide
  ·have:¬(((wid x.toNat:Nat):Int)≤s.F_Wide):=by omega
   rw [if_pos hw,decide_eq_false this];rfl
  ·have:((wid x.toNat:Nat):Int)≤s.F_Wide:=by omega
   rw [if_neg hw,decide_eq_true this,Bool.true_and]
theorem zIc {s:zAc} (h:FitS s):zBQ s=some (mayP s):=by
 obtain ⟨h1,h2,h3,h4,h5⟩:=h
 have hl:=fun j=>zWu s j h3 h5 s.F_Lev 0 rfl
 rw [show ((0:Nat):Int)=0 from rfl] at hl
 rw [zBQ]
 simp only [orB,andB,hl,zSx _ _ h1,zAb]
 by_cases hd:(decide (s.F_Dim<1)||decide (s.F_Dim>4096))=true
 ·rw [if_pos hd]
  congr 1;symm
  rw [Bool.eq_false_iff]
  intro hm
  simp at hd
  cases zEL.1 hm<;>omega
 rw [if_neg hd]
 simp at hd
 by_cases c0:s.F_Scheme=0
 ·rw [if_pos c0]
  congr 1
  rw [Bool.eq_iff_iff]
  simp [mayP,zCf,c0,zCb,zEz]
  constructor
  ·rintro ⟨⟨⟨a1,a2⟩,a3,a4⟩,a5,a6⟩
   exact ⟨⟨⟨by omega,by omega⟩,a2⟩,a1,a5,a3,a4,a6⟩
  ·rintro ⟨⟨⟨_,_⟩,a2⟩,a1,a5,a3,a4,a6⟩
   exact ⟨⟨⟨a1,a2⟩,a3,a4⟩,a5,a6⟩
 rw [if_neg c0]
 by_cases c1:s.F_Scheme=1
 ·rw [if_pos c1]
  congr 1
  rw [Bool.eq_iff_iff]
  simp [mayP,zCf,c0,c1,zCb,zEz]
  constructor
  ·rintro ⟨⟨⟨a1,a2⟩,a3,a4⟩,a5,a6⟩
   exact ⟨⟨⟨⟨by omega,by omega⟩,a1⟩,by omega⟩,a5,a3,a4,a6⟩
  ·rintro ⟨⟨⟨⟨_,_⟩,a1⟩,a2⟩,a5,a3,a4,a6⟩
   exact ⟨⟨⟨a1,by omega⟩,a3,a4⟩,a5,a6⟩
 rw [if_neg c1]
 by_cases c2:s.F_Scheme=2
 ·rw [if_pos c2]
  by_cases hw:(decide ((decide (s.F_Wide<1)||decide (s.F_Wide>8))=true)||((s.F_Lev.length:Int) !=s.F_Dim))=true
  ·rw [if_pos hw]
   congr 1;symm
   rw [Bool.eq_false_iff]
   intro hm
   simp at hw
   cases zEL.1 hm<;>omega
  ·rw [if_neg hw]
   simp at hw
   by_cases ha:(s.F_Lev.all fun n=>decide ((wid n.toNat:Int)≤s.F_Wide))=true
   ·rw [if_pos ha]
    simp only [zAb]
    congr 1
    rw [Bool.eq_iff_iff]
    simp at ha
    simp [mayP,zCf,c0,c1,c2,zCb,zEz]
    constructor
    ·rintro ⟨⟨⟨a1,a2⟩,a3⟩,a4⟩
     exact ⟨⟨⟨⟨⟨⟨⟨⟨by omega,by omega⟩,by omega⟩,by omega⟩,by omega⟩,ha⟩,a3⟩,a4⟩,a1,a2⟩
    ·rintro ⟨⟨⟨_,a3⟩,a4⟩,a1,a2⟩
     exact ⟨⟨⟨a1,a2⟩,a3⟩,a4⟩
   ·rw [if_neg ha]
    simp only [zAb]
    congr 1;symm
    rw [Bool.eq_false_iff]
    intro hm
    apply ha
    simp [mayP,zCf,c0,c1,c2,zCb,zEz] at hm
    simp
    exact hm.1.1.1.2
 rw [if_neg c2]
 by_cases c3:s.F_Scheme=3
 ·rw [if_pos c3]
  congr 1
  rw [Bool.eq_iff_iff]
  simp [mayP,zCf,c0,c1,c2,c3,zCb,zEz]
  constructor
  ·rintro ⟨⟨⟨⟨a1,a2⟩,a3,a4⟩,a5⟩,a6⟩
   exact ⟨⟨⟨⟨by omega,by omega⟩,a5⟩,a6⟩,a1,a2,a3,a4⟩
  ·rintro ⟨⟨⟨_,a5⟩,a6⟩,a1,a2,a3,a4⟩
   exact ⟨⟨⟨⟨a1,a2⟩,a3,a4⟩,a5⟩,a6⟩
 ·rw [if_neg c3]
  congr 1;symm
  rw [Bool.eq_false_iff]
  intro hm
  cases zEL.1 hm<;>omega
theorem zSK (l:List Int) (hl:l.length≤4096) (hu:∀n∈l,0≤n∧n≤18446744073709551615) {w:Nat} (hw:w<64):∀(t:List Int) (k:Nat) (acc:List Bool),l.drop k=t→acc.length+t.length≤4000000→zBC l (w:Int) (k:Int) acc=some (acc++t.map fun x=>x.toNat.testBit w)
 | [],k,acc,h,ha=>by rw [zBC,if_neg (zAp h)];simp
 | x::t,k,acc,h,ha=>by
  obtain ⟨h1,h2,h3⟩:=zAh h
  have hm:x∈l:=by
   have:x∈l.drop k:=by rw [h];simp
   exact List.mem_of_mem_drop this
  obtain ⟨q1,q2⟩:=hu x hm
  simp only [List.length_cons] at ha
  have hb:(Int.tmod (sShr .u64 x (w:Int)) 2==1)=x.toNat.testBit w:=by
   have e:=shrU x.toNat w (by omega)
   rw [Int.toNat_of_nonneg q1] at e
   rw [e,Nat.testBit_eq_decide_div_mod_eq]
   generalize x.toNat/2 ^ w=q
   rw [Int.tmod_eq_emod_of_nonneg (by omega),Bool.eq_iff_iff]
   simp;omega
  rw [zBC,if_pos h1,if_pos ⟨by omega,h1⟩,if_pos (by omega),h2,hb,if_pos (zEx (by simp;omega)),zAb,zAx (by omega),zSK l hl hu hw t (k+1) _ h3 (by simp;omega)]
  simp
theorem zSk (l:List Int) (hl:l.length≤4096) (hu:∀n∈l,0≤n∧n≤18446744073709551615):∀(w:Nat) (acc:List Bool),w≤32→acc.length+w*l.length≤4000000→zBF l ((w:Int)-1) acc=some (acc++zHW w l)
 | 0,acc,hw,ha=>by rw [zBF,if_neg (by omega)];simp [zHW]
 | w+1,acc,hw,ha=>by
  have e:((w+1:Nat):Int)-1=(w:Int):=by omega
  rw [Nat.succ_mul] at ha
  have h1:=zSK l hl hu (w:=w) (by omega) l 0 acc rfl (by omega)
  rw [show ((0:Nat):Int)=0 from rfl] at h1
  rw [e,zBF,if_pos (by omega),h1,zAb,i64_in _ (by omega),zSk l hl hu w _ (by omega) (by simp;omega),zHW,List.append_assoc]
theorem zY1 {w:Nat} (hw:w≤32) {l:List Int} (hl:l.length≤4096) (hx:∀x∈l,0≤x∧x≤18446744073709551615∧x.toNat<2 ^ w):zE3 (w:Int) l=some (zE1 (pWov l.length) w l.length l,0):=by
 have hq:w*l.length≤32*4096:=Nat.mul_le_mul hw hl
 rw [zE3,zAbF hw hl rfl hx,zAb,if_neg (by simp),i64_in _ (by omega),zSk l hl (fun n hn=>⟨(hx n hn).1,(hx n hn).2.1⟩) w [] hw (by simp;omega),zAb,List.nil_append,zTZ _ (by rw [zMD];omega),zAb,zAcm]
theorem zSr {l:List Bool} (hl:l.length≤4096):zDA l=some (zIt l,0):=by
 rw [zDA,if_neg (by omega),zTZ l (by omega),zAb,zAaX]
theorem zAan {s:zAc} (h:FitV s):zFv s=some (if mayP s=true then (zMU s,0) else ([],1)):=by
 rw [zFv,zIc h.fit,zAb]
 by_cases hm:mayP s=true
 rotate_left
 ·have:mayP s=false:=by simpa using hm
  rw [this];rfl
 rw [hm,if_neg (by simp),if_pos rfl]
 have hS:=zEL.1 hm
 have hdim:0<s.F_Dim∧s.F_Dim≤4096:=by cases hS<;>exact ⟨by assumption,by assumption⟩
 have hsch:0≤s.F_Scheme∧s.F_Scheme≤3:=by cases hS<;>omega
 have hl:=zFV s.F_Dim (by omega)
 have h2:zCg [IntKind.u8.wrap s.F_Scheme] [IntKind.u64.wrap s.F_Dim]=some ([s.F_Scheme]++lebP s.F_Dim):=by
  rw [u8_in _ (by omega),u64_in _ (by omega),zKe _ _ (by simp) (by simp;omega) (by simp;omega)];simp
 have h2l:([s.F_Scheme]++lebP s.F_Dim).length≤11:=by simp;omega
 rw [h2,zAb]
 cases hS with
 | dense d0 d1 hs hv z=>
  have:=zPm s.F_V h.v
  rw [if_pos hs,zRd _ _ (by omega) h.v (by omega),zAb]
  unfold zMU zJO;rw [if_pos hs];simp
 | top d0 d1 hs c hv z=>
  have hL:=zZ7 c
  have hpl:=zXF s.F_Dim s.F_L (by omega)
  have:=zPm s.F_V h.v
  rw [if_neg (by omega),if_pos hs,zAaj _ _ (by omega),zAb]
  simp only
  rw [if_pos (zEx (by rw [List.length_append];omega)),zRd _ _ (by omega) h.v (by rw [List.length_append];omega),zAb]
  unfold zMU zJO;rw [if_neg (by omega),if_pos hs];simp
 | level d0 d1 hs w0 w1 l x c n z=>
  have hsc:=h.sc
  unfold I64 at hsc
  have hls:=zFV s.F_Scale (by omega)
  have hLev:s.F_Lev.length=s.F_Dim.toNat:=by omega
  have hw:=zY1 (w:=s.F_Wide.toNat) (l:=s.F_Lev) (by omega) (by omega) (fun y hy=>⟨(h.fit.u y hy).1,(h.fit.u y hy).2,x y hy⟩)
  rw [Int.toNat_of_nonneg (by omega)] at hw
  have hby:=zHm (w:=s.F_Wide.toNat) (d:=s.F_Lev.length) (by omega) (by omega)
  have hb1:=zHm (w:=1) (d:=s.F_Neg.length) (by omega) (by omega)
  rw [if_neg (by omega),if_neg (by omega),u64_in _ (by omega),zKe _ _ (by simp) (by simp;omega) (by simp only [List.flatMap_cons,List.flatMap_nil,List.length_append,List.length_nil] at*;omega),zAb,if_pos hs,hw,zAb,u8_in _ (by omega),
   if_pos (zEx (by simp only [List.flatMap_cons,List.flatMap_nil,List.length_append,List.length_nil,List.length_cons] at*;omega)),zAb]
  simp only
  rw [if_pos (zEx (by simp only [List.flatMap_cons,List.flatMap_nil,List.length_append,List.length_nil,List.length_cons,zF2] at*;omega)),zSr (by omega),zAb]
  simp only
  rw [if_pos (zEx (by simp only [List.flatMap_cons,List.flatMap_nil,List.length_append,List.length_nil,List.length_cons,zF2,zLr] at*;omega))]
  unfold zMU zJO;rw [if_neg (by omega),if_neg (by omega),if_pos hs,hLev];simp
 | sign d0 d1 hs c n z=>
  have hsc:=h.sc
  unfold I64 at hsc
  have hls:=zFV s.F_Scale (by omega)
  have hb1:=zHm (w:=1) (d:=s.F_Neg.length) (by omega) (by omega)
  rw [if_neg (by omega),if_neg (by omega),u64_in _ (by omega),zKe _ _ (by simp) (by simp;omega) (by simp only [List.flatMap_cons,List.flatMap_nil,List.length_append,List.length_nil] at*;omega),zAb,if_neg (by omega),zSr (by omega),zAb]
  simp only
  rw [if_pos (zEx (by simp only [List.flatMap_cons,List.flatMap_nil,List.length_append,List.length_nil,List.length_cons,zLr] at*;omega))]
  unfold zMU zJO;rw [if_neg (by omega),if_neg (by omega),if_neg (by omega)];simp
end Go.Proofs.YtdgdgfckcnjpfaaGreat.Abs
