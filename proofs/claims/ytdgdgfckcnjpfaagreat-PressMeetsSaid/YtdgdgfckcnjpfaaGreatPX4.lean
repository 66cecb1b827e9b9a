/- Plain facts: what is pressed meets its way, and is got back (chapter 12). Conditions: none. -/
import Derived.Test.YtdgdgfckcnjpfaaGreatPX3
import Derived.Test.YtdgdgfckcnjpfaaGreatPG7
namespace Go.Proofs.YtdgdgfckcnjpfaaGreat.Abs
open Go Go.RowKit Go.IntWalk
set_option linter.unusedVariables false
set_option linter.unusedSimpArgs false
set_option linter.unnecessarySimpa false
set_option maxRecDepth 100000
theorem zT3 {seed:Int} {n:List Int} {m w:Int} (hw:1≤w∧w≤8):∀(v:List Int) (k:Nat),zK9 m w v (zHQ seed n m w k v) (v.map fun x=>decide (x<0))=true
 | [],k=>rfl
 | x::t,k=>by
  rw [zHQ,List.map_cons,zK9,zT3 hw t (k+1),zVz,levQ]
  split
  ·rename_i hc
   have:(zBh x m w).2.1≠0:=by omega
   simp [this]
  ·simp
theorem zXf {h:zAk} {v:List Int} {seed:Int} {n:List Int} (hi:I64s v) (he:(zAG h v seed n).2=0):zRH h v (zAG h v seed n).1=true:=by
 obtain ⟨hm,hs,hd,hw⟩:=zTY hi he
 rw [zRH,decide_eq_true hw,zEz.2 hm,decide_eq_true hs,isP]
 simp only [Bool.true_and]
 rw [zAG] at*
 obtain ⟨hd4,hw'⟩:=hw
 have h4:¬4096<v.length:=by omega
 have hwn:¬¬zCU h (v.length:Int):=fun x=>x ⟨hd4,hw'⟩
 rw [if_neg h4,if_neg hwn] at*
 by_cases c0:h.F_Scheme=0
 ·rw [if_pos c0,if_pos c0];simp
 rw [if_neg c0] at*
 rw [if_neg c0]
 by_cases c1:h.F_Scheme=1
 ·rw [if_pos c1,if_pos c1];simp
 rw [if_neg c1] at*
 rw [if_neg c1]
 by_cases c2:h.F_Scheme=2
 ·rw [if_pos c2] at*
  rw [if_pos c2]
  by_cases e2:(zC8 v).2≠0
  ·rw [if_pos e2] at he;exact absurd he e2
  rw [if_neg e2]
  simp only [Bool.and_eq_true,decide_eq_true_eq]
  exact ⟨⟨trivial,by simpa using e2,trivial,trivial⟩,zT3 (by omega) v 0⟩
 rw [if_neg c2] at*
 rw [if_neg c2]
 by_cases e2:(zCW v).2≠0
 ·rw [if_pos e2] at he;exact absurd he e2
 rw [if_neg e2]
 simp only [decide_eq_true_eq]
 exact ⟨by simpa using e2,trivial,trivial⟩
theorem zWU:∀(v x:List Int),v.length=x.length→List.zipWith (·+·) x (List.zipWith (·-·) v x)=v
 | [],[],_=>rfl
 | [],y::x,h=>by simp at h
 | a::v,[],h=>by simp at h
 | a::v,y::x,h=>by
  simp only [List.zipWith_cons_cons,zWU v x (by simpa using h)]
  congr 1;omega
theorem zZX {s:zAc} (hm:MayS s) (hd:s.F_Dim≤500):s.F_V.length≤500∧s.F_L.length≤500:=by
 rcases hm with ⟨d0,d1,h,z,y⟩ | ⟨d0,d1,h,c,z,y⟩ | ⟨d0,d1,h,w0,w1,l,x,c,n,z⟩ | ⟨d0,d1,h,c,n,z⟩
 ·rw [y.1];simp;omega
 ·obtain ⟨h1,h2,h3⟩:=zH8.1 c
  rcases zH7 h2 h3 with h4 | h4
  ·omega
  ·rw [h4] at z;rw [h4];simp at*;omega
 ·rw [z.1,z.2];simp
 ·rw [z.1,z.2.1];simp
theorem zYw (p:zAc×Int):(⟨(zDs p).1,(zDs p).2.1,(zDs p).2.2.1,(zDs p).2.2.2.1,(zDs p).2.2.2.2.1,(zDs p).2.2.2.2.2.1,(zDs p).2.2.2.2.2.2.1,(zDs p).2.2.2.2.2.2.2.1⟩:zAc)=p.1:=rfl
theorem zR9 (h:zAk) (v:List Int) (seed:Int) (n:List Int) (hi:I64s v):zEt h v seed n=some true:=by
 obtain ⟨b,hb1,hb2⟩:=zAbq n [v] (by simp)
 rw [zEt,zAab,zAb,if_neg (by simp),hb1,zAb]
 cases b with
 | false=>rw [if_pos rfl]
 | true=>
 obtain ⟨f1,_,f3⟩:=hb2 rfl
 have fv:=f3 v (by simp)
 rw [if_neg (by simp),zVC hi (by omega),zAb,zYw]
 have hF:=zSx (h:=h) (v:=v) (seed:=seed) (n:=n) hi
 rw [show (zDs (zAG h v seed n)).2.2.2.2.2.2.2.2=(zAG h v seed n).2 from rfl,show (zDs (zAG h v seed n)).2.1=(zAG h v seed n).1.F_Dim from rfl]
 by_cases he:(zAG h v seed n).2≠0
 ·rw [if_pos he,if_pos rfl,zAb,zAaf he];rfl
 rw [if_neg he]
 have he':(zAG h v seed n).2=0:=by simpa using he
 have hmt:=zXf (h:=h) (seed:=seed) (n:=n) hi he'
 obtain ⟨hm,hsc,hd,hw⟩:=zTY hi he'
 have hmay:=zEz.2 hm
 have hv2:v.length≤200:=by have:=hw.1;omega
 generalize (zAG h v seed n).1=s at*
 obtain ⟨hV,hL⟩:=zZX hm (by omega)
 have hok:zFf (⟨1,0,0,s⟩:zAE):=⟨⟨by simp,by simp,by simp,by simp⟩, .inl ⟨rfl,hmay⟩⟩
 have hsm:=zW8 (f:=(⟨1,0,0,s⟩:zAE)) (fitV hF) hok hV hL
 have hR:=zAda (f:=(⟨1,0,0,s⟩:zAE)) (fitV hF) hok (by omega)
 simp only at hR
 have hLo:zGi s=(zEx s,0):=by rw [zGi,if_pos hmay]
 have hln:=zXA hmay
 have hLJ:I64s (zEx s):=by have:=zW4 hF;rw [hLo] at this;exact this
 have hlf:zJA v s=zOo (·-·) v (zEx s):=by rw [zJA,hLo,if_neg (by simp),vecP,if_neg (by simp only;omega),if_neg (by simp only;omega)]
 rw [zT4 hF,zAb,zYu hi hF,zAb,zXN (by rw [hLo];exact hLJ) zAdo,zAb,zAbM (fitV hF) (fun _=>by omega),if_pos hok,zAb]
 simp only
 rw [hR,zAb,zAbN hi hF,zAb,hmt,hLo]
 simp only
 rw [if_neg (by simp),zAb,if_neg (by simp),zAb,if_neg (by simp),zAb,if_neg (by simp),zXv ⟨hF.S.L,hF.S.V,hF.S.Lev,hF.S.Neg⟩,zAb,zAb,if_neg (by simp),hlf,zOo]
 by_cases hJ:∀x∈List.zipWith (·-·) v (zEx s),J64 x
 ·rw [if_pos hJ,if_neg (by simp),if_pos trivial,zAb]
  simp only
  have hz:=zWU v (zEx s) (by omega)
  have hA:vecP (·+·) (zEx s) (List.zipWith (·-·) v (zEx s))=(v,0):=by
   rw [vecP,if_neg (by simp;omega),if_neg (by simp;omega),zOo,hz,if_pos (show ∀x∈v,J64 x from fun x hx=>hi x hx)]
  rw [hA]
  rw [if_pos (by simp),zAa7 _ _ (by simp only;omega),zAb,zAb];simp
 ·rw [if_neg hJ,if_pos (by simp),if_pos trivial,zAb];rfl
end Go.Proofs.YtdgdgfckcnjpfaaGreat.Abs
