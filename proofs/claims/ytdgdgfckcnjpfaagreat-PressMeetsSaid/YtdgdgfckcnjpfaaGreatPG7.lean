/- Plain facts: frames, part 7. Conditions: none. -/
import Derived.Test.YtdgdgfckcnjpfaaGreatPG6
namespace Go.Proofs.YtdgdgfckcnjpfaaGreat.Abs
open Go Go.RowKit Go.IntWalk Crc
set_option linter.unusedVariables false
set_option linter.unusedSimpArgs false
set_option linter.unusedSectionVars false
set_option linter.unnecessarySimpa false
set_option maxRecDepth 100000
set_option linter.unnecessarySimpa false
set_option linter.unusedSimpArgs false
set_option linter.unusedSectionVars false
set_option maxRecDepth 100000
theorem zCG {b X R:List Int} {k:Nat} (hk:k≤b.length) (h:b.drop k=X++R):b=b.take k++(X++R)∧(b.take k).length=k∧k+X.length≤b.length∧b.drop (k+X.length)=R:=by
 have h1:b=b.take k++b.drop k:=(List.take_append_drop k b).symm
 have h2:(b.take k).length=k:=by simp [hk]
 have h3:=congrArg List.length h
 simp only [List.length_drop,List.length_append] at h3
 refine ⟨by rw [←h];exact h1,h2,by omega, ?_⟩
 rw [←List.drop_drop,h];simp
theorem zAaj {b B:List Int} {k:Nat} {n:Int} (hb:b.length≤1099511627776) (hk:k≤b.length) (hn:0≤n∧n≤18446744073709551615) (h:b.drop k=lebP n++B):getP b (k:Int)=(n,((k+(lebP n).length:Nat):Int),0):=by
 obtain ⟨h1,h2,h3,h4⟩:=zCG hk h
 have:=zQW (b.take k) B n hn (by omega)
 rw [←h1,h2] at this
 rw [this];rfl
section
variable {b:List Int} (hb:b.length≤1000000) (hu:U8s b)
include hb hu
theorem zIR {k:Nat} {n most:Int} {R:List Int} (hk:k≤b.length) (hn:0≤n∧n≤18446744073709551615) (hm:n≤most) (h:b.drop k=lebP n++R):zAx ⟨⟨b,(k:Int)⟩,false⟩ most=some (n,b,((k+(lebP n).length:Nat):Int),false):=
 zXB b k most n _ (by omega) hu hk (zAaj (by omega) hk hn h) hm
theorem zUg {N:Nat} (hN:N≤4096) {R:List Int}:∀(t:List Int) (k:Nat) (acc:List Int),(∀n∈t,I64 n)→acc.length+t.length=N→k≤b.length→b.drop k=sigB t++R→
  zAW (N:Int) acc b (k:Int) false=some (acc++t,b,((k+(sigB t).length:Nat):Int),false)
 | [],k,acc,hi,hl,hk,h=>by
  rw [zAW]
  simp only [andB]
  rw [if_neg (by simp at hl⊢;omega)];simp [sigB]
 | v::t,k,acc,hi,hl,hk,h=>by
  have hv:=hi v (by simp)
  have hs:sigB (v::t)=lebP (zigP v)++sigB t:=by simp [sigB]
  rw [hs,List.append_assoc] at h
  obtain ⟨h1,h2,h3,h4⟩:=zCG hk h
  have hz:=zYr hv
  simp only [List.length_cons] at hl
  rw [zAW]
  simp only [andB]
  rw [if_pos (by simp;omega),zIR hb hu hk hz hz.2 h,zAb]
  simp only
  rw [zAdg hz.1 hz.2,zAb,zAcE,if_pos (zJv (by simp;omega))]
  have:=zUg hN t (k+(lebP (zigP v)).length) (acc++[v]) (fun n hn=>hi n (by simp [hn])) (by simp;omega) h3 h4
  rw [this,hs]
  refine congrArg some (Prod.ext (by simp) (Prod.ext rfl (Prod.ext ?_ rfl)))
  simp;omega
theorem zW0 {t R:List Int} {k:Nat} (ht:t.length≤4096) (hi:∀n∈t,I64 n) (hk:k≤b.length) (h:b.drop k=sigB t++R):zBR ⟨⟨b,(k:Int)⟩,false⟩ (t.length:Int)=some (t,b,((k+(sigB t).length:Nat):Int),false):=by
 rw [zBR,if_pos (by omega),zAb]
 simp only [Int.toNat_zero,List.replicate_zero]
 rw [zUg hb hu ht t k [] hi (by simp) hk h,zAb];rfl
theorem zAba {dim:Int} {l R:List Int} {k:Nat} (hc:zC6 dim l=0) (hk:k≤b.length) (h:b.drop k=putB dim l++R):zCt ⟨⟨b,(k:Int)⟩,false⟩ dim=some (l,b,((k+(putB dim l).length:Nat):Int),false):=by
 obtain ⟨h1,h2,h3,h4⟩:=zCG hk h
 have hg:=zAc2 dim l (b.take k) R hc (by omega)
 rw [←h1,h2] at hg
 rw [zCt]
 simp only [Bool.false_eq_true,if_false]
 rw [zAcD dim b k (by omega) hu (by omega),hg,zAb,if_neg (by simp)]
theorem zAaE {X R:List Int} {k:Nat} (hk:k≤b.length) (h:b.drop k=X++R):zA9 ⟨⟨b,(k:Int)⟩,false⟩ (X.length:Int)=some (X,b,((k+X.length:Nat):Int),false):=by
 obtain ⟨h1,h2,h3,h4⟩:=zCG hk h
 rw [zTX b k X.length (by omega) h3,h];simp
theorem zPW {x:Int} {R:List Int} {k:Nat} (hx:0≤x∧x≤255) (h:b.drop k=[x]++R):zAB ⟨⟨b,(k:Int)⟩,false⟩=some (x,b,((k+1:Nat):Int),false):=zYB b k (by omega) hx h
omit hu hb in
theorem zWy {p:Nat→Nat→Nat} {w d:Nat} (hp:Plc p w d) {l:List Int} (hl:l.length=d):zJG w d (zEK p w d l):=by
 intro k h1 h2
 cases hb:bitA (zEK p w d l) k with
 | false=>rfl
 | true=>
  obtain ⟨n,hn,m,hm,h3,h4⟩:=(zSr hp hl k).1 hb
  have:=hp.lt n hn (w-1-m) (by omega)
  omega
theorem zX6 {l:List Bool} {R:List Int} {k:Nat} (hl:l.length≤4096) (hk:k≤b.length) (h:b.drop k=zFt l++R):zBW ⟨⟨b,(k:Int)⟩,false⟩ (l.length:Int)=some (l,b,((k+(zFt l).length:Nat):Int),false):=by
 have hn:IntKind.i64.wrap (Int.tdiv (IntKind.i64.wrap ((l.length:Int)+7)) 8)=((zFt l).length:Int):=by
  rw [zEA,i64_in ((l.length:Int)+7) (by omega),Int.tdiv_eq_ediv_of_nonneg (by omega),i64_in _ (by omega)]
  unfold bytesOf;omega
 rw [zBW,hn,zAaE hb hu hk h,zAb]
 simp only
 rw [zAcO hl (zPj l) (zEA l),if_pos (show zJG 1 l.length (zFt l) from zWy (zLK 1 l.length) (by simp)),zXj,zAb]
 simp only
 rw [zLq,zAb];rfl
theorem zAdy {s:zAc} (hs:FitV s) (hm:mayP s=true) {R:List Int} {k:Nat} (hk:k≤b.length) (h:b.drop k=zFS s++R):
  zCP ⟨⟨b,(k:Int)⟩,false⟩=some (s.F_Scheme,s.F_Dim,s.F_L,s.F_V,s.F_Scale,s.F_Wide,s.F_Lev,s.F_Neg,b,((k+(zFS s).length:Nat):Int),false):=by
 have hS:=zEz.1 hm
 have hdim:0<s.F_Dim∧s.F_Dim≤4096:=by cases hS<;>exact ⟨by assumption,by assumption⟩
 have hsch:0≤s.F_Scheme∧s.F_Scheme≤3:=by cases hS<;>omega
 have hsc:=hs.sc
 unfold I64 at hsc
 have hB:(zFS s).length=1+((lebP s.F_Dim).length+(zGX s).length):=by simp [zFS];omega
 unfold zFS at h
 simp only [List.append_assoc] at h
 obtain ⟨_,_,a3,a4⟩:=zCG hk h
 simp only [List.length_cons,List.length_nil,Nat.zero_add] at a3 a4
 obtain ⟨_,_,b3,b4⟩:=zCG a3 a4
 rw [zCP,zPW hb hu (by omega) h,zAb]
 simp only
 rw [zIR hb hu a3 (by omega) hdim.2 a4,zAb]
 simp only
 rw [i64_in s.F_Dim (by omega),zLq,zAb]
 have hpos:decide (s.F_Dim>0)=true:=by simp;omega
 rw [hpos]
 simp only [Bool.not_true,Bool.or_self,Bool.false_eq_true,if_false]
 generalize hk2:k+1+(lebP s.F_Dim).length=k2 at*
 unfold zGX at b4 hB
 cases hS with
 | dense d0 d1 hs0 hv z=>
  obtain ⟨z1,z2,z3,z4,z5⟩:=z
  rw [if_pos hs0] at b4 hB
  rw [if_pos hs0,←hv,zW0 hb hu (by omega) hs.v b3 b4,zAb,z1,z2,z3,z4,z5]
  refine congrArg some (Prod.ext rfl (Prod.ext rfl (Prod.ext rfl (Prod.ext rfl (Prod.ext rfl (Prod.ext rfl (Prod.ext rfl (Prod.ext rfl (Prod.ext rfl (Prod.ext ?_ rfl))))))))))
  simp only;omega
 | top d0 d1 hs0 c hv z=>
  obtain ⟨z2,z3,z4,z5⟩:=z
  have hL:=zTq c
  rw [if_neg (by omega),if_pos hs0] at b4 hB
  rw [List.append_assoc] at b4
  obtain ⟨_,_,c3,c4⟩:=zCG b3 b4
  rw [if_neg (by omega),if_pos hs0,zAba hb hu c b3 b4,zAb]
  simp only
  rw [hv,zW0 hb hu (by omega) hs.v c3 c4,zAb,z2,z3,z4,z5]
  refine congrArg some (Prod.ext rfl (Prod.ext rfl (Prod.ext rfl (Prod.ext rfl (Prod.ext rfl (Prod.ext rfl (Prod.ext rfl (Prod.ext rfl (Prod.ext rfl (Prod.ext ?_ rfl))))))))))
  simp only [List.length_append] at hB⊢;omega
 | level d0 d1 hs0 w0 w1 l x c n z=>
  obtain ⟨z1,z2⟩:=z
  rw [if_neg (by omega),if_neg (by omega),if_pos hs0] at b4 hB
  simp only [List.append_assoc] at b4
  obtain ⟨_,_,c3,c4⟩:=zCG b3 b4
  obtain ⟨_,_,e3,e4⟩:=zCG c3 c4
  simp only [List.length_cons,List.length_nil,Nat.zero_add] at e3 e4
  obtain ⟨_,_,f3,f4⟩:=zCG e3 e4
  have hLev:s.F_Lev.length=s.F_Dim.toNat:=by omega
  have hby:=zLI (w:=s.F_Wide.toNat) (d:=s.F_Dim.toNat) (by omega) (by omega)
  rw [Int.toNat_of_nonneg (by omega),Int.toNat_of_nonneg (by omega)] at hby
  have htk:=zAbr (w:=s.F_Wide.toNat) (d:=s.F_Dim.toNat) (by omega) (by omega) (zPe (pWov s.F_Dim.toNat) s.F_Wide.toNat s.F_Dim.toNat s.F_Lev) (zFO _ _ _ _)
  rw [if_pos (zWy (zNx _ _) hLev),zVp (zNx _ _) hLev (fun y hy=>⟨(hs.fit.u y hy).1,x y hy⟩),Int.toNat_of_nonneg (by omega),Int.toNat_of_nonneg (by omega)] at htk
  rw [if_neg (by omega),if_neg (by omega),if_pos hs0,zIR hb hu b3 (by omega) (by omega) b4,zAb]
  simp only
  rw [zPW hb hu (by omega) c4,zAb]
  simp only [andB]
  have hw8:(decide (s.F_Wide>0)&&decide (s.F_Wide≤8))=true:=by simp;omega
  rw [hw8,zLq,zAb]
  simp only [Bool.not_true,Bool.or_self,Bool.false_eq_true,if_false]
  rw [hby,zAb]
  simp only
  rw [zLq,zAb]
  simp only [beq_self_eq_true,Bool.not_true,Bool.or_self]
  have hpl:((bytesOf s.F_Wide.toNat s.F_Dim.toNat:Nat):Int)=((zEK (pWov s.F_Dim.toNat) s.F_Wide.toNat s.F_Dim.toNat s.F_Lev).length:Int):=by rw [zFO]
  rw [hpl,zAaE hb hu e3 e4,zAb]
  simp only
  rw [zIc,zFV,zAb,htk,zAb,zAb]
  simp only
  rw [zLq,zAb]
  simp only [beq_self_eq_true,Bool.not_true,Bool.or_self]
  have hsg:=zX6 hb hu (by omega) f3 f4
  rw [n] at hsg
  rw [hsg,zAb,z1,z2,i64_in s.F_Scale (by omega)]
  refine congrArg some (Prod.ext rfl (Prod.ext rfl (Prod.ext rfl (Prod.ext rfl (Prod.ext rfl (Prod.ext rfl (Prod.ext rfl (Prod.ext rfl (Prod.ext rfl (Prod.ext ?_ rfl))))))))))
  simp only [List.length_append,List.length_cons,List.length_nil] at hB⊢;omega
 | sign d0 d1 hs0 c n z=>
  obtain ⟨z1,z2,z3,z4⟩:=z
  rw [if_neg (by omega),if_neg (by omega),if_neg (by omega)] at b4 hB
  simp only [List.append_assoc] at b4
  obtain ⟨_,_,c3,c4⟩:=zCG b3 b4
  rw [if_neg (by omega),if_neg (by omega),if_neg (by omega),if_pos hs0,zIR hb hu b3 (by omega) (by omega) b4,zAb]
  simp only
  have hsg:=zX6 hb hu (by omega) c3 c4
  rw [n] at hsg
  rw [hsg,zAb,z1,z2,z3,z4,i64_in s.F_Scale (by omega)]
  refine congrArg some (Prod.ext rfl (Prod.ext rfl (Prod.ext rfl (Prod.ext rfl (Prod.ext rfl (Prod.ext rfl (Prod.ext rfl (Prod.ext rfl (Prod.ext rfl (Prod.ext ?_ rfl))))))))))
  simp only [List.length_append] at hB⊢;omega
end
theorem zAda {f:zAE} (h:FitV f.F_S) (hok:zFf f) (hl:(zGs f).length≤65532):
  zIe (zMn (zGs f))=some (f.F_Kind,f.F_From,f.F_Step,f.F_S.F_Scheme,f.F_S.F_Dim,f.F_S.F_L,f.F_S.F_V,f.F_S.F_Scale,f.F_S.F_Wide,f.F_S.F_Lev,f.F_S.F_Neg,0):=by
 have hu:=zWb hok
 have hopen:=zAbd (zAbT (zGs f)) (by rw [zZ4];omega)
 rw [zYK hu hl] at hopen
 have hok':=hok
 obtain ⟨⟨o1,o2,o3,o4⟩,hk⟩:=hok
 have hkk:f.F_Kind=1∨f.F_Kind=2:=by rcases hk with h | h;exact .inl h.1;exact .inr h.1
 generalize hb:zGs f=b at*
 have h0:b.drop 0=[1]++([f.F_Kind]++(lebP f.F_From++(lebP f.F_Step++(if f.F_Kind=1 then zFS f.F_S else [])))):=by rw [←hb];rfl
 have hlb:b.length≤1000000:=by omega
 obtain ⟨_,_,a3,a4⟩:=zCG (Nat.zero_le _) h0
 simp only [List.length_cons,List.length_nil,Nat.zero_add] at a3 a4
 obtain ⟨_,_,b3,b4⟩:=zCG a3 a4
 simp only [List.length_cons,List.length_nil,Nat.zero_add,Nat.reduceAdd] at b3 b4
 obtain ⟨_,_,c3,c4⟩:=zCG b3 b4
 obtain ⟨_,_,e3,e4⟩:=zCG c3 c4
 have s1:zAB ⟨⟨b,0⟩,false⟩=some (1,b,1,false):=zPW hlb hu (k:=0) (by omega) h0
 have s2:zAB ⟨⟨b,1⟩,false⟩=some (f.F_Kind,b,2,false):=zPW hlb hu (k:=1) (by omega) a4
 have n1:zAx ⟨⟨b,2⟩,false⟩ 63=_:=zIR hlb hu (k:=2) b3 (by omega) (by omega:f.F_From≤63) b4
 have n2:=zIR hlb hu (most:=1073741824) c3 (by omega) (by omega) c4
 rw [zIe,hopen,zAb]
 simp only [ne_eq,not_true_eq_false,if_false]
 rw [s1,zAb]
 simp only [zLq,zAb,beq_self_eq_true,Bool.not_true,Bool.or_self]
 rw [s2,zAb]
 simp only
 rw [n1,zAb]
 simp only
 rw [n2,zAb]
 simp only [andB,Bool.not_false,Bool.and_true]
 have hc:=zUk (f:=f) h.fit
 rw [if_pos hok'] at hc
 have tot:b.length=2+(lebP f.F_From).length+(lebP f.F_Step).length+(if f.F_Kind=1 then zFS f.F_S else []).length:=by
  have:=congrArg List.length h0
  simp at this⊢;omega
 rcases hk with ⟨h1,h2⟩ | ⟨h1,h2⟩
 ·rw [if_pos h1] at e4 tot
  rw [if_pos (by simpa using h1),zAdy hlb hu h h2 e3 (R:=[]) (by simpa using e4),zAb,zAb]
  simp only [Bool.false_eq_true,if_false]
  rw [if_neg (by omega),i64_in f.F_From (by omega),i64_in f.F_Step (by omega)]
  show (zDL f>>=_)=_
  rw [hc,zAb];rfl
 ·rw [if_neg (by omega)] at e4 tot
  rw [if_neg (by simp;omega),zAb]
  simp only [Bool.false_eq_true,if_false]
  simp only [List.length_nil] at tot
  rw [if_neg (by omega),i64_in f.F_From (by omega),i64_in f.F_Step (by omega)]
  have hf:f=⟨f.F_Kind,f.F_From,f.F_Step,zB7⟩:=by rw [←h2]
  have hc':zDL ⟨f.F_Kind,f.F_From,f.F_Step,⟨0,0,[],[],0,0,[],[]⟩⟩=some 0:=by
   rw [hf] at hc;exact hc
  rw [hc',zAb,h2];rfl
end Go.Proofs.YtdgdgfckcnjpfaaGreat.Abs
