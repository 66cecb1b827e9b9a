/- Plain facts: frames, part 6. Conditions: none. -/
import Derived.Test.YtdgdgfckcnjpfaaGreatPG5
namespace Go.Proofs.YtdgdgfckcnjpfaaGreat.Abs
open Go Go.RowKit Go.IntWalk Crc
set_option linter.unusedVariables false
set_option linter.unusedSimpArgs false
set_option linter.unusedSectionVars false
set_option linter.unnecessarySimpa false
set_option maxRecDepth 100000
set_option linter.unnecessarySimpa false
set_option linter.unusedSimpArgs false
set_option maxRecDepth 100000
structure FitV (s:zAc):Prop where
 fit:FitS s
 v:∀n∈s.F_V,I64 n
 sc:I64 s.F_Scale
theorem zPA (b l:List Int) (e0:Int) (h:(b++l).length≤140737488355328):zBp ⟨b,e0⟩ l 0=some (b++l,e0):=by
 rw [zBp]
 simp only
 rw [if_pos (zEx h),if_neg (by simp)]
theorem zXl (b:List Int) (s:zAc) (h:FitV s) (hv:s.F_V.length≤4096) (hb:b.length≤1000000):zCB ⟨b,0⟩ s=some (b++sigB s.F_V,0):=by
 have:=zPm s.F_V h.v
 rw [zCB]
 simp only
 rw [zAbO b s.F_V (by omega) h.v (by omega),zAb]
theorem zZ7 {dim:Int} {l:List Int} (h:zCh dim l=0):l.length≤4096:=by
 obtain ⟨h1,h2,h3⟩:=zPc.1 h
 simp only [meas,Bool.and_eq_true,decide_eq_true_eq] at h1
 rcases zK5 h2 h3 with h4 | h4
 ·omega
 ·simp [h4]
theorem zHm {w d:Nat} (hw:w≤8) (hd:d≤4096):bytesOf w d≤4096:=by
 have:w*d≤8*4096:=Nat.mul_le_mul hw hd
 unfold bytesOf;omega
theorem zAd9 {s:zAc} (h:FitV s):zIs s=some (if mayP s=true then (zMU s,0) else ([],1)):=by
 rw [zIs,zL5 h.fit,zAb]
 by_cases hm:mayP s=true
 rotate_left
 ·have:mayP s=false:=by simpa using hm
  rw [this];rfl
 rw [hm,if_neg (by simp),if_pos rfl]
 have hS:=zEL.1 hm
 have hdim:0<s.F_Dim∧s.F_Dim≤4096:=by cases hS<;>exact ⟨by assumption,by assumption⟩
 have hsch:0≤s.F_Scheme∧s.F_Scheme≤3:=by cases hS<;>omega
 have hl:=zFV s.F_Dim (by omega)
 have h2:zFX [IntKind.u8.wrap s.F_Scheme] [IntKind.u64.wrap s.F_Dim]=some ([s.F_Scheme]++lebP s.F_Dim):=by
  rw [u8_in _ (by omega),u64_in _ (by omega),zK3 _ _ (by simp) (by simp;omega)];simp
 have h2l:([s.F_Scheme]++lebP s.F_Dim).length≤11:=by simp;omega
 rw [h2,zAb]
 have fin:∀(r:List Int),zJO s=r→∀(m:Option (List Int×Int)),m=some (([s.F_Scheme]++lebP s.F_Dim)++r,0)→(m>>=fun j7=>if j7.2≠0 then some (([]:List Int),j7.2) else some (j7.1,0))=some (zMU s,0):=by
  rintro r hr m rfl
  rw [zAb,if_neg (by simp)]
  unfold zMU;rw [hr];simp
 cases hS with
 | dense d0 d1 hs hv z=>
  refine fin (sigB s.F_V) (by unfold zJO;rw [if_pos hs]) _ ?_
  rw [if_pos hs,zXl _ s h (by omega) (by omega),zAb]
 | top d0 d1 hs c hv z=>
  have hL:=zZ7 c
  have hpl:=zXF s.F_Dim s.F_L (by omega)
  refine fin (putB s.F_Dim s.F_L++sigB s.F_V) (by unfold zJO;rw [if_neg (by omega),if_pos hs]) _ ?_
  rw [if_neg (by omega),if_pos hs,zFI,zAep _ _ (by omega),zAb,c]
  simp only
  rw [zPA _ _ _ (by simp only [List.length_append] at*;omega),zAb]
  simp only
  rw [zXl _ s h (by omega) (by simp only [List.length_append] at*;omega),zAb,zAb,List.append_assoc _ (putB _ _)]
 | level d0 d1 hs w0 w1 l x c n z=>
  have hsc:=h.sc
  unfold I64 at hsc
  have hls:=zFV s.F_Scale (by omega)
  have hLev:s.F_Lev.length=s.F_Dim.toNat:=by omega
  have hw:=zAdP (w:=s.F_Wide.toNat) (d:=s.F_Dim.toNat) (by omega) (by omega) hLev (fun y hy=>⟨(h.fit.u y hy).1,x y hy⟩)
  rw [Int.toNat_of_nonneg (by omega)] at hw
  have hby:=zHm (w:=s.F_Wide.toNat) (d:=s.F_Dim.toNat) (by omega) (by omega)
  have hb1:=zHm (w:=1) (d:=s.F_Neg.length) (by omega) (by omega)
  refine fin (lebP s.F_Scale++([s.F_Wide]++(zE1 (pWov s.F_Dim.toNat) s.F_Wide.toNat s.F_Dim.toNat s.F_Lev++zIt s.F_Neg))) (by unfold zJO;rw [if_neg (by omega),if_neg (by omega),if_pos hs]) _ ?_
  rw [if_neg (by omega),if_neg (by omega),if_pos hs,zEH]
  simp only
  rw [u64_in _ (by omega),zK3 _ _ (by simp) (by simp only [List.flatMap_cons,List.flatMap_nil,List.length_append,List.length_nil] at*;omega),zAb,if_pos (zEx (by simp only [List.flatMap_cons,List.flatMap_nil,List.length_append,List.length_nil,List.length_cons] at*;omega)),zAb,u8_in _ (by omega),zKQ,zKz,zAb,hLev,hw,zAb,zAb]
  simp only
  rw [zPA _ _ _ (by simp only [List.flatMap_cons,List.flatMap_nil,List.length_append,List.length_nil,List.length_cons,zF2] at*;omega),zAb,zYl (by omega),zAb]
  simp only
  rw [zPA _ _ _ (by simp only [List.flatMap_cons,List.flatMap_nil,List.length_append,List.length_nil,List.length_cons,zF2,zLr] at*;omega),zAb,zAb]
  simp only [List.flatMap_cons,List.flatMap_nil,List.append_nil,List.append_assoc]
 | sign d0 d1 hs c n z=>
  have hsc:=h.sc
  unfold I64 at hsc
  have hls:=zFV s.F_Scale (by omega)
  have hb1:=zHm (w:=1) (d:=s.F_Neg.length) (by omega) (by omega)
  refine fin (lebP s.F_Scale++zIt s.F_Neg) (by unfold zJO;rw [if_neg (by omega),if_neg (by omega),if_neg (by omega)]) _ ?_
  rw [if_neg (by omega),if_neg (by omega),if_neg (by omega),if_pos hs,zFq]
  simp only
  rw [u64_in _ (by omega),zK3 _ _ (by simp) (by simp only [List.flatMap_cons,List.flatMap_nil,List.length_append,List.length_nil] at*;omega),zAb,zYl (by omega),zAb]
  simp only
  rw [zPA _ _ _ (by simp only [List.flatMap_cons,List.flatMap_nil,List.length_append,List.length_nil,List.length_cons,zLr] at*;omega),zAb,zAb]
  simp only [List.flatMap_cons,List.flatMap_nil,List.append_nil,List.append_assoc]
end Go.Proofs.YtdgdgfckcnjpfaaGreat.Abs
