/- Plain facts: frames, part 6. Conditions: none. -/
import Derived.Test.YtdgdgfckcnjpfaaGreatPG5
namespace Go.Proofs.YtdgdgfckcnjpfaaGreat.Abs
open Go Go.RowKit Go.IntWalk Crc
set_option linter.unusedVariables false
set_option linter.unusedSimpArgs false
set_option linter.unusedSectionVars false
set_option linter.unnecessarySimpa false
set_option maxRecDepth 100000
set_option linter.unnecessarySimpa false
set_option linter.unusedSimpArgs false
set_option maxRecDepth 100000
structure FitV (s:zAc):Prop where
 fit:FitS s
 v:∀n∈s.F_V,I64 n
 sc:I64 s.F_Scale
theorem zOy (b l:List Int) (e0:Int) (h:(b++l).length≤140737488355328):zBA ⟨b,e0⟩ l 0=some (b++l,e0):=by
 rw [zBA]
 simp only
 rw [if_pos (zHl h),if_neg (by simp)]
theorem zWQ (b:List Int) (s:zAc) (h:FitV s) (hv:s.F_V.length≤4096) (hb:b.length≤1000000):zCo ⟨b,0⟩ s=some (b++sigB s.F_V,0):=by
 have:=zNS s.F_V h.v
 rw [zCo]
 simp only
 rw [zAal b s.F_V (by omega) h.v (by omega),zAb]
theorem zTq {dim:Int} {l:List Int} (h:zC6 dim l=0):l.length≤4096:=by
 obtain ⟨h1,h2,h3⟩:=zH8.1 h
 simp only [meas,Bool.and_eq_true,decide_eq_true_eq] at h1
 rcases zH7 h2 h3 with h4 | h4
 ·omega
 ·simp [h4]
theorem zDV {w d:Nat} (hw:w≤8) (hd:d≤4096):bytesOf w d≤4096:=by
 have:w*d≤8*4096:=Nat.mul_le_mul hw hd
 unfold bytesOf;omega
theorem zAcx {s:zAc} (h:FitV s):zHN s=some (if mayP s=true then (zFS s,0) else ([],1)):=by
 rw [zHN,zJX h.fit,zAb]
 by_cases hm:mayP s=true
 rotate_left
 ·have:mayP s=false:=by simpa using hm
  rw [this];rfl
 rw [hm,if_neg (by simp),if_pos rfl]
 have hS:=zEz.1 hm
 have hdim:0<s.F_Dim∧s.F_Dim≤4096:=by cases hS<;>exact ⟨by assumption,by assumption⟩
 have hsch:0≤s.F_Scheme∧s.F_Scheme≤3:=by cases hS<;>omega
 have hl:=zDe s.F_Dim (by omega)
 have h2:zEI [IntKind.u8.wrap s.F_Scheme] [IntKind.u64.wrap s.F_Dim]=some ([s.F_Scheme]++lebP s.F_Dim):=by
  rw [u8_in _ (by omega),u64_in _ (by omega),zHR _ _ (by simp) (by simp;omega)];simp
 have h2l:([s.F_Scheme]++lebP s.F_Dim).length≤11:=by simp;omega
 rw [h2,zAb]
 have fin:∀(r:List Int),zGX s=r→∀(m:Option (List Int×Int)),m=some (([s.F_Scheme]++lebP s.F_Dim)++r,0)→(m>>=fun j7=>if j7.2≠0 then some (([]:List Int),j7.2) else some (j7.1,0))=some (zFS s,0):=by
  rintro r hr m rfl
  rw [zAb,if_neg (by simp)]
  unfold zFS;rw [hr];simp
 cases hS with
 | dense d0 d1 hs hv z=>
  refine fin (sigB s.F_V) (by unfold zGX;rw [if_pos hs]) _ ?_
  rw [if_pos hs,zWQ _ s h (by omega) (by omega),zAb]
 | top d0 d1 hs c hv z=>
  have hL:=zTq c
  have hpl:=zQY s.F_Dim s.F_L (by omega)
  refine fin (putB s.F_Dim s.F_L++sigB s.F_V) (by unfold zGX;rw [if_neg (by omega),if_pos hs]) _ ?_
  rw [if_neg (by omega),if_pos hs,zFs,zAdz _ _ (by omega),zAb,c]
  simp only
  rw [zOy _ _ _ (by simp only [List.length_append] at*;omega),zAb]
  simp only
  rw [zWQ _ s h (by omega) (by simp only [List.length_append] at*;omega),zAb,zAb,List.append_assoc _ (putB _ _)]
 | level d0 d1 hs w0 w1 l x c n z=>
  have hsc:=h.sc
  unfold I64 at hsc
  have hls:=zDe s.F_Scale (by omega)
  have hLev:s.F_Lev.length=s.F_Dim.toNat:=by omega
  have hw:=zAcw (w:=s.F_Wide.toNat) (d:=s.F_Dim.toNat) (by omega) (by omega) hLev (fun y hy=>⟨(h.fit.u y hy).1,x y hy⟩)
  rw [Int.toNat_of_nonneg (by omega)] at hw
  have hby:=zDV (w:=s.F_Wide.toNat) (d:=s.F_Dim.toNat) (by omega) (by omega)
  have hb1:=zDV (w:=1) (d:=s.F_Neg.length) (by omega) (by omega)
  refine fin (lebP s.F_Scale++([s.F_Wide]++(zEK (pWov s.F_Dim.toNat) s.F_Wide.toNat s.F_Dim.toNat s.F_Lev++zFt s.F_Neg))) (by unfold zGX;rw [if_neg (by omega),if_neg (by omega),if_pos hs]) _ ?_
  rw [if_neg (by omega),if_neg (by omega),if_pos hs,zEp]
  simp only
  rw [u64_in _ (by omega),zHR _ _ (by simp) (by simp only [List.flatMap_cons,List.flatMap_nil,List.length_append,List.length_nil] at*;omega),zAb,if_pos (zHl (by simp only [List.flatMap_cons,List.flatMap_nil,List.length_append,List.length_nil,List.length_cons] at*;omega)),zAb,u8_in _ (by omega),zKA,zFV,zAb,hLev,hw,zAb,zAb]
  simp only
  rw [zOy _ _ _ (by simp only [List.flatMap_cons,List.flatMap_nil,List.length_append,List.length_nil,List.length_cons,zFO] at*;omega),zAb,zWw (by omega),zAb]
  simp only
  rw [zOy _ _ _ (by simp only [List.flatMap_cons,List.flatMap_nil,List.length_append,List.length_nil,List.length_cons,zFO,zEA] at*;omega),zAb,zAb]
  simp only [List.flatMap_cons,List.flatMap_nil,List.append_nil,List.append_assoc]
 | sign d0 d1 hs c n z=>
  have hsc:=h.sc
  unfold I64 at hsc
  have hls:=zDe s.F_Scale (by omega)
  have hb1:=zDV (w:=1) (d:=s.F_Neg.length) (by omega) (by omega)
  refine fin (lebP s.F_Scale++zFt s.F_Neg) (by unfold zGX;rw [if_neg (by omega),if_neg (by omega),if_neg (by omega)]) _ ?_
  rw [if_neg (by omega),if_neg (by omega),if_neg (by omega),if_pos hs,zEP]
  simp only
  rw [u64_in _ (by omega),zHR _ _ (by simp) (by simp only [List.flatMap_cons,List.flatMap_nil,List.length_append,List.length_nil] at*;omega),zAb,zWw (by omega),zAb]
  simp only
  rw [zOy _ _ _ (by simp only [List.flatMap_cons,List.flatMap_nil,List.length_append,List.length_nil,List.length_cons,zEA] at*;omega),zAb,zAb]
  simp only [List.flatMap_cons,List.flatMap_nil,List.append_nil,List.append_assoc]
theorem zAaL {s:zAc} (h:FitV s) (hm:mayP s=true):(zGX s).length≤82000:=by
 have hv:=zNS s.F_V h.v
 have hsc:=h.sc
 unfold I64 at hsc
 unfold zGX
 cases zEz.1 hm with
 | dense d0 d1 hs hv' z=>rw [if_pos hs];omega
 | top d0 d1 hs c hv' z=>
  have hL:=zTq c
  have hpl:=zQY s.F_Dim s.F_L (by omega)
  rw [if_neg (by omega),if_pos hs];simp;omega
 | level d0 d1 hs w0 w1 l x c n z=>
  have hls:=zDe s.F_Scale (by omega)
  have hby:=zDV (w:=s.F_Wide.toNat) (d:=s.F_Dim.toNat) (by omega) (by omega)
  have hb1:=zDV (w:=1) (d:=s.F_Neg.length) (by omega) (by omega)
  rw [if_neg (by omega),if_neg (by omega),if_pos hs];simp [zFO,zEA];omega
 | sign d0 d1 hs c n z=>
  have hls:=zDe s.F_Scale (by omega)
  have hb1:=zDV (w:=1) (d:=s.F_Neg.length) (by omega) (by omega)
  rw [if_neg (by omega),if_neg (by omega),if_neg (by omega)];simp [zEA];omega
theorem zW9 {s:zAc} (h:FitV s) (hm:mayP s=true) (hv5:s.F_V.length≤500) (hl5:s.F_L.length≤500):(zGX s).length≤12000:=by
 have hv:=zNS s.F_V h.v
 have hsc:=h.sc
 unfold I64 at hsc
 unfold zGX
 cases zEz.1 hm with
 | dense d0 d1 hs hv' z=>rw [if_pos hs];omega
 | top d0 d1 hs c hv' z=>
  have hpl:=zQY s.F_Dim s.F_L (by omega)
  rw [if_neg (by omega),if_pos hs];simp;omega
 | level d0 d1 hs w0 w1 l x c n z=>
  have hls:=zDe s.F_Scale (by omega)
  have hby:=zDV (w:=s.F_Wide.toNat) (d:=s.F_Dim.toNat) (by omega) (by omega)
  have hb1:=zDV (w:=1) (d:=s.F_Neg.length) (by omega) (by omega)
  rw [if_neg (by omega),if_neg (by omega),if_pos hs];simp [zFO,zEA];omega
 | sign d0 d1 hs c n z=>
  have hls:=zDe s.F_Scale (by omega)
  have hb1:=zDV (w:=1) (d:=s.F_Neg.length) (by omega) (by omega)
  rw [if_neg (by omega),if_neg (by omega),if_neg (by omega)];simp [zEA];omega
theorem zZP {x:Int} (h:0≤x∧x≤255):U8s [x]:=by intro y hy;simp at hy;omega
theorem zAbo {s:zAc} (hm:mayP s=true):U8s (zFS s):=by
 have hleb:∀n,U8s (lebP n):=fun n=>zPL _ _ (Nat.le_refl _)
 unfold zFS zGX
 have hS:=zEz.1 hm
 have hsch:0≤s.F_Scheme∧s.F_Scheme≤3:=by cases hS<;>omega
 refine zGg (zZP (by omega)) (zGg (hleb _) ?_)
 split
 ·exact zXI _
 split
 ·exact zGg (zAcN _ _) (zXI _)
 split
 ·rename_i hs
  have:0≤s.F_Wide∧s.F_Wide≤255:=by cases hS<;>omega
  exact zGg (hleb _) (zGg (zZP this) (zGg (zPe _ _ _ _) (zPj _)))
 ·exact zGg (hleb _) (zPj _)
def zGs (f:zAE):List Int:=[1,f.F_Kind]++(lebP f.F_From++(lebP f.F_Step++(if f.F_Kind=1 then zFS f.F_S else [])))
theorem zWb {f:zAE} (h:zFf f):U8s (zGs f):=by
 have hleb:∀n,U8s (lebP n):=fun n=>zPL _ _ (Nat.le_refl _)
 have hk:f.F_Kind=1∨f.F_Kind=2:=by rcases h.2 with h | h;exact .inl h.1;exact .inr h.1
 unfold zGs
 refine zGg (by intro x hx;simp at hx;omega) (zGg (hleb _) (zGg (hleb _) ?_))
 split
 ·rename_i h1
  rcases h.2 with h2 | h2
  ·exact zAbo h2.2
  ·omega
 ·intro x hx;simp at hx
theorem zAbM {f:zAE} (h:FitV f.F_S) (hl:zFf f→(zGs f).length≤65532):zHg f=some (if zFf f then (zMn (zGs f),0) else ([],1)):=by
 rw [zHg,zUk h.fit,zAb]
 by_cases hok:zFf f
 rotate_left
 ·rw [if_neg hok,if_neg hok,if_pos (by simp)]
 rw [if_pos hok,if_pos hok,if_neg (by simp)]
 have hu:=zWb hok
 have hlen:=hl hok
 obtain ⟨⟨o1,o2,o3,o4⟩,hk⟩:=hok
 have hk':f.F_Kind=1∨f.F_Kind=2:=by rcases hk with h | h;exact .inl h.1;exact .inr h.1
 have l1:=zDe f.F_From (by omega)
 have l2:=zDe f.F_Step (by omega)
 rw [u8_in _ (by omega),u64_in _ (by omega),u64_in _ (by omega),zHR _ _ (by simp) (by simp;omega),zAb]
 simp only [List.flatMap_cons,List.flatMap_nil,List.append_nil]
 rcases hk with ⟨h1,h2⟩ | ⟨h1,h2⟩
 ·have e:zGs f=([1,f.F_Kind]++(lebP f.F_From++lebP f.F_Step))++zFS f.F_S:=by
   unfold zGs;rw [if_pos h1];simp
  have hr:=zAaL h h2
  rw [if_pos h1,zAcx h,zAb,if_pos h2]
  simp only
  rw [if_neg (by simp),←e,if_pos (zHl (by omega)),zVQ hu hlen,zAb]
 ·have e:zGs f=[1,f.F_Kind]++(lebP f.F_From++lebP f.F_Step):=by
   unfold zGs;rw [if_neg (by omega)];simp
  rw [if_neg (by omega),←e,zVQ hu hlen,zAb]
theorem zW8 {f:zAE} (h:FitV f.F_S) (hok:zFf f) (hv5:f.F_S.F_V.length≤500) (hl5:f.F_S.F_L.length≤500):(zGs f).length≤13000:=by
 obtain ⟨⟨o1,o2,o3,o4⟩,hk⟩:=hok
 have l1:=zDe f.F_From (by omega)
 have l2:=zDe f.F_Step (by omega)
 unfold zGs
 rcases hk with ⟨h1,h2⟩ | ⟨h1,h2⟩
 ·have hr:=zW9 h h2 hv5 hl5
  have hd:f.F_S.F_Dim≤4096:=by cases zEz.1 h2<;>assumption
  have l3:=zDe f.F_S.F_Dim (by omega)
  rw [if_pos h1];simp [zFS];omega
 ·rw [if_neg (by omega)];simp;omega
end Go.Proofs.YtdgdgfckcnjpfaaGreat.Abs
