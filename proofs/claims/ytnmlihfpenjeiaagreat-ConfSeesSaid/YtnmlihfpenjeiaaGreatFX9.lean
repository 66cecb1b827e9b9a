/- Plain facts: the greatest one's place, shares (table, and the document's). Conditions: none. -/
import Derived.Test.YtnmlihfpenjeiaaGreatFX8
namespace Go.Proofs.YtnmlihfpenjeiaaGreat.Abs
open Go Go.RowKit Go.IntWalk
set_option linter.unusedVariables false
set_option linter.unusedSimpArgs false
set_option linter.unnecessarySimpa false
set_option maxRecDepth 100000
theorem zWQ (z:List Int) (hz:z.length≤4096):∀(t:List Int) (k:Nat) (m:Int),z.drop k=t→∃r,zBg z (k:Int) m=some r∧(r=m∨r∈t)∧m≤r∧∀x∈t,x≤r
 | [],k,m,h=>⟨m,by rw [zBg,if_neg (zAP h)], .inl rfl,Int.le_refl _,by simp⟩
 | x::t,k,m,h=>by
  have g:=zAw h
  rw [zBg,if_pos g.1,if_pos ⟨by omega,g.1⟩,g.2.1,zAJ (by omega)]
  obtain ⟨r,r1,r2,r3,r4⟩:=zWQ z hz t (k+1) (if x>m then x else m) g.2.2
  refine ⟨r,r1, ?_, ?_, ?_⟩
  ·rcases r2 with r2 | r2
   ·by_cases hx:x>m
    ·rw [if_pos hx] at r2;exact .inr (by simp [r2])
    ·rw [if_neg hx] at r2;exact .inl r2
   ·exact .inr (by simp [r2])
  ·by_cases hx:x>m
   ·rw [if_pos hx] at r3;omega
   ·rw [if_neg hx] at r3;exact r3
  ·intro y hy
   rcases List.mem_cons.1 hy with rfl | hy
   ·by_cases hx:y>m
    ·rw [if_pos hx] at r3;exact r3
    ·rw [if_neg hx] at r3;omega
   ·exact r4 y hy
theorem zR5 (z:List Int) (hz:z.length≤4096) (m:Int):∀(t:List Int) (k:Nat),z.drop k=t→m∈t→∃j:Nat,zBl z m (k:Int)=some (.inl (j:Int))∧k≤j∧j<z.length∧at' z (j:Int)=m∧∀i:Nat,k≤i→i<j→at' z (i:Int)≠m
 | [],k,h,hm=>by cases hm
 | x::t,k,h,hm=>by
  have g:=zAw h
  rw [zBl,if_pos g.1,if_pos ⟨by omega,g.1⟩,zAJ (by omega)]
  by_cases hx:m=at' z (k:Int)
  ·exact ⟨k,by rw [if_pos hx],by omega,by omega,hx.symm,fun i h1 h2=>by omega⟩
  ·have hm2:m∈t:=(List.mem_cons.1 hm).resolve_left (by rw [←g.2.1];exact hx)
   obtain ⟨j,j1,j2,j3,j4,j5⟩:=zR5 z hz m t (k+1) g.2.2 hm2
   refine ⟨j,by rw [if_neg hx,j1],by omega,j3,j4,fun i h1 h2=> ?_⟩
   by_cases hi:i=k
   ·subst hi;exact fun q=>hx q.symm
   ·exact j5 i (by omega) h2
theorem zQx (z:List Int) (hz:z.length≤4096):∀(t:List Int) (k b:Nat),z.drop k=t→b<z.length→(∀i:Nat,i<k→at' z (i:Int)≤at' z (b:Int))→(∀i:Nat,i<b→at' z (i:Int)<at' z (b:Int))→
  ∃j:Nat,zCh z (k:Int) (b:Int)=some (j:Int)∧j<z.length∧(∀i:Nat,i<z.length→at' z (i:Int)≤at' z (j:Int))∧(∀i:Nat,i<j→at' z (i:Int)<at' z (j:Int))
 | [],k,b,h,hb,h1,h2=>⟨b,by rw [zCh,if_neg (zAP h)],hb,fun i hi=>h1 i (by have:=zAP h;omega),h2⟩
 | x::t,k,b,h,hb,h1,h2=>by
  have g:=zAw h
  rw [zCh,if_pos g.1,if_pos ⟨by omega,g.1⟩,if_pos ⟨by omega,by omega⟩,zAJ (by omega)]
  by_cases hx:at' z (k:Int)>at' z (b:Int)
  ·rw [if_pos hx]
   exact zQx z hz t (k+1) k g.2.2 (by omega) (fun i hi=>by
    by_cases e:i=k
    ·subst e;omega
    ·have:=h1 i (by omega);omega) (fun i hi=>by have:=h1 i hi;omega)
  ·rw [if_neg hx]
   exact zQx z hz t (k+1) b g.2.2 hb (fun i hi=>by
    by_cases e:i=k
    ·subst e;omega
    ·exact h1 i (by omega)) h2
theorem zY2 {z:List Int} (h0:z≠[]) (hz:z.length≤4096):∃j:Nat,j<z.length∧(∀x∈z,x≤at' z (j:Int))∧zGc z=some ((j:Int),0)∧zGH z=some ((j:Int),0):=by
 have hp:0<z.length:=List.length_pos_iff.2 h0
 obtain ⟨j,j1,j2,j3,j4⟩:=zQx z hz z 0 0 rfl hp (fun i hi=>by omega) (fun i hi=>by omega)
 rw [show ((0:Nat):Int)=0 from rfl] at j1
 have hall:∀x∈z,x≤at' z (j:Int):=fun x hx=>by
  obtain ⟨i,hi,rfl⟩:=List.mem_iff_getElem.1 hx
  have:=j3 i hi
  rw [zD4,List.getD_eq_getElem?_getD,List.getElem?_eq_getElem hi] at this
  exact this
 refine ⟨j,j2,hall, ?_, ?_⟩
 ·obtain ⟨x,t,e⟩:∃x t,z=x::t:=by cases z with | nil=>simp at hp | cons x t=>exact ⟨x,t,rfl⟩
  obtain ⟨r,r1,r2,r3,r4⟩:=zWQ z hz t 1 x (by rw [e];rfl)
  have hr:r=at' z (j:Int):=by
   have a1:r≤at' z (j:Int):=by
    apply hall;rw [e]
    rcases r2 with r2 | r2
    ·simp [r2]
    ·simp [r2]
   have a2:at' z (j:Int)≤r:=by
    have hm:at' z (j:Int)∈z:=by rw [zD4,List.getD_eq_getElem?_getD,List.getElem?_eq_getElem j2];simp
    have:∀y∈z,y≤r:=fun y hy=>by
     rw [e] at hy
     rcases List.mem_cons.1 hy with rfl | hy
     ·exact r3
     ·exact r4 y hy
    exact this _ hm
   omega
  have hm:r∈z:=by rw [hr,zD4,List.getD_eq_getElem?_getD,List.getElem?_eq_getElem j2];simp
  obtain ⟨i,i1,i2,i3,i4,i5⟩:=zR5 z hz r z 0 rfl hm
  have hij:i=j:=by
   rcases Nat.lt_trichotomy i j with g | g | g
   ·have:=j4 i g;omega
   ·exact g
   ·exact absurd hr.symm (i5 j (by omega) g)
  subst hij
  have ex:at' z 0=x:=by rw [e];rfl
  rw [show ((0:Nat):Int)=0 from rfl] at i1
  rw [show ((1:Nat):Int)=1 from rfl] at r1
  rw [zGc,if_neg (by omega),zLZ hz,zAb,if_neg (by simp),zEs,if_neg (by omega),zAb,if_pos ⟨by omega,by omega⟩,ex,r1,zAb,zAb,zD9,i1,zAb,zAb]
 ·rw [zGH,if_neg (by omega),if_neg (by omega),j1,zAb]
def powP (m f n:Int):Int×Int:=if (ov (n-m)).2≠0 then (0,(ov (n-m)).2) else expP (n-m) f
def sumW (s:Int) (l:List Int):Int:=l.foldl (fun s p=>IntKind.i64.wrap (s+p)) s
def zIv (m f:Int) (z:List Int):List Int×Int:=if (mapE (powP m f) z).2≠0 then ([],(mapE (powP m f) z).2) else mapE (fun p=>divP p (sumW 0 (mapE (powP m f) z).1) f) (mapE (powP m f) z).1
theorem zZr (m f n:Int):J64 (powP m f n).1:=by
 unfold powP;split
 ·exact J0
 ·exact zZc _ _
theorem zV6 (x:Int):J64 (IntKind.i64.wrap x):=zM9 x
theorem zRO:∀(l:List Int) (s:Int),J64 s→J64 (sumW s l)
 | [],s,h=>h
 | p::l,s,h=>zRO l (IntKind.i64.wrap (s+p)) (zV6 _)
theorem zYk {x:Int} (h:(ov x).2=0):ov x=(x,0)∧J64 x:=by
 unfold ov at h⊢
 by_cases g:J64 x
 ·rw [if_pos g];exact ⟨rfl,g⟩
 ·rw [if_neg g] at h;simp at h
def endS (s:Int) (pre:List Int) (r:List Int×Int):Sum (List Int×Int) (Int×List Int):=if r.2≠0 then .inl ([],r.2) else .inr (sumW s r.1,pre++r.1)
theorem zQ4 {α:Type} (g:α→Int×Int) (s:Int) (pre:List Int) (x:α) (t:List α):endS s pre (mapE g (x::t))=if (g x).2≠0 then .inl ([],(g x).2) else endS (IntKind.i64.wrap (s+(g x).1)) (pre++[(g x).1]) (mapE g t):=by
 rw [mapE]
 by_cases h:(g x).2≠0
 ·rw [if_pos h,if_pos h,endS,if_pos h]
 ·rw [if_neg h,if_neg h]
  by_cases q:(mapE g t).2≠0
  ·rw [if_pos q,endS,if_pos q,endS,if_pos q]
  ·rw [if_neg q,endS,if_neg (by simp),endS,if_neg q];simp [sumW]
theorem zSJ {pre rest:List Int} {x:Int} {k:Nat} (h:pre.length=k):at' (pre++x::rest) (k:Int)=x:=by
 subst h;rw [zD4,List.getD_eq_getElem?_getD];simp
theorem zSH {f:Int} {z:List Int} {j:Nat} (hz:I64s z) (hl:z.length≤4096) (hf:0≤f∧f≤30) (hj:j<z.length) (hm:∀x∈z,x≤at' z (j:Int)) (hJ:J64 (at' z (j:Int))):∀(t:List Int) (k:Nat) (s:Int) (pre rest:List Int),z.drop k=t→pre.length=k→rest.length=t.length→
  zCD f z ((j:Int),0) (k:Int) s (pre++rest)=some (endS s pre (mapE (powP (at' z (j:Int)) f) t))
 | [],k,s,pre,rest,h,hp,hr=>by
  rw [zCD,if_neg (zAP h),List.eq_nil_of_length_eq_zero hr];simp [endS,mapE,sumW]
 | x::t,k,s,pre,[],h,hp,hr=>by simp at hr
 | x::t,k,s,pre,y::rest,h,hp,hr=>by
  have g:=zAw h
  have hx:x∈z:=by
   have:x∈z.drop k:=by rw [h];simp
   exact List.mem_of_mem_drop this
  have hle:=hm x hx
  rw [zCD,if_pos g.1,if_pos ⟨by omega,g.1⟩,if_pos ⟨by omega,by simp only;omega⟩,g.2.1,zNp (hz x hx) hJ,zAb,zQ4]
  by_cases h1:(ov (x-at' z (j:Int))).2=0
  ·obtain ⟨o1,o2⟩:=zYk h1
   have e1:powP (at' z (j:Int)) f x=expP (x-at' z (j:Int)) f:=by rw [powP,if_neg (fun q=>q h1)]
   rw [if_pos h1,o1,zYI o2 (by omega) hf,zAb,if_pos ⟨by omega,by simp;omega⟩,zAb,e1]
   by_cases h2:(expP (x-at' z (j:Int)) f).2≠0
   ·rw [if_pos h2,if_pos h2]
   ·rw [if_neg h2,if_neg h2,Int.toNat_natCast,zMz hp,if_pos ⟨by omega,by simp;omega⟩,zSJ hp,zAJ (by omega)]
    have:=zSH hz hl hf hj hm hJ t (k+1) (IntKind.i64.wrap (s+(expP (x-at' z (j:Int)) f).1)) (pre++[(expP (x-at' z (j:Int)) f).1]) rest g.2.2 (by simp [hp]) (by simpa using hr)
    rw [←this];simp
  ·have e1:powP (at' z (j:Int)) f x=(0,(ov (x-at' z (j:Int))).2):=by rw [powP,if_pos h1]
   rw [if_neg h1,if_pos h1,e1,if_pos h1]
theorem zPP {f:Int} {z:List Int} {j:Nat} (hz:I64s z) (hl:z.length≤4096) (hf:0≤f∧f≤30) (hj:j<z.length) (hm:∀x∈z,x≤at' z (j:Int)) (hJ:J64 (at' z (j:Int))):∀(t:List Int) (k:Nat) (s:Int) (pre:List Int),z.drop k=t→pre.length=k→
  zDp f z ((j:Int),0) (k:Int) s pre=some (endS s pre (mapE (powP (at' z (j:Int)) f) t))
 | [],k,s,pre,h,hp=>by
  rw [zDp,if_neg (zAP h)];simp [endS,mapE,sumW]
 | x::t,k,s,pre,h,hp=>by
  have g:=zAw h
  have hx:x∈z:=by
   have:x∈z.drop k:=by rw [h];simp
   exact List.mem_of_mem_drop this
  have hle:=hm x hx
  rw [zDp,if_pos g.1,if_pos ⟨by omega,g.1⟩,if_pos ⟨by omega,by simp only;omega⟩,g.2.1,zLF (hz x hx) hJ,zAb,zQ4]
  by_cases h1:(ov (x-at' z (j:Int))).2=0
  ·obtain ⟨o1,o2⟩:=zYk h1
   have e1:powP (at' z (j:Int)) f x=expP (x-at' z (j:Int)) f:=by rw [powP,if_neg (fun q=>q h1)]
   rw [if_neg (by omega),o1,zV5 o2 (by omega) hf,zAb,e1]
   by_cases h2:(expP (x-at' z (j:Int)) f).2≠0
   ·rw [if_pos h2,if_pos h2]
   ·rw [if_neg h2,if_neg h2,if_pos (zB2 (by simp;omega)),zAJ (by omega)]
    exact zPP hz hl hf hj hm hJ t (k+1) (IntKind.i64.wrap (s+(expP (x-at' z (j:Int)) f).1)) (pre++[(expP (x-at' z (j:Int)) f).1]) g.2.2 (by simp [hp])
  ·have e1:powP (at' z (j:Int)) f x=(0,(ov (x-at' z (j:Int))).2):=by rw [powP,if_pos h1]
   rw [if_pos h1,e1,if_pos h1]
theorem zZk {f s:Int} {p:List Int} (hp:I64s p) (hs:J64 s) (hl:p.length≤4096):zCH f (s,p) 0 p=some (endE [] (mapE (fun x=>divP x s f) p)):=by
 have key:∀(t:List Int) (k:Nat) (pre:List Int),I64s t→pre.length=k→k+t.length=p.length→zCH f (s,p) (k:Int) (pre++t)=some (endE pre (mapE (fun x=>divP x s f) t)):=by
  intro t
  induction t with
  | nil=>intro k pre ht hp hr;rw [zCH,if_neg (by simp at hr;simp only;omega)];simp [endE,mapE]
  | cons x t ih=>
   intro k pre ht hp hr
   have hr':k+(t.length+1)=p.length:=by simpa using hr
   have hb:0≤(k:Int)∧(k:Int)<((pre++x::t).length:Int):=⟨by omega,by simp;omega⟩
   rw [zCH,if_pos (by simp only;omega),if_pos hb,zSJ hp,zU5 (ht x (by simp)) hs,zAb,if_pos hb,zAb,zKr,Int.toNat_natCast,zMz hp,zAJ (by omega)]
   by_cases hx:(divP x s f).2≠0
   ·rw [if_pos hx,if_pos hx]
   ·rw [if_neg hx,if_neg hx]
    have:=ih (k+1) (pre++[(divP x s f).1]) (fun y hy=>ht y (by simp [hy])) (by simp [hp]) (by omega)
    rw [←this];simp
 have:=key p 0 [] hp rfl (by omega)
 simpa using this
theorem zYA {f s:Int} {p:List Int} (hp:I64s p) (hs:J64 s) (hl:p.length≤4096):zBz f (s,p) 0 []=some (endE [] (mapE (fun x=>divP x s f) p)):=by
 have h:=appE (fun k out=>zBz f (s,p) k out) (fun x=>divP x s f) p
  (fun k out hk=>by
   show zBz _ _ _ _=_
   rw [zBz,if_neg (by simp only;omega)])
  (fun k out x t hx ho=>by
   have g:=zAw hx
   show zBz _ _ _ _=_
   rw [zBz,if_pos g.1,if_pos ⟨by omega,g.1⟩,g.2.1,zSh (zEg hp hx) hs,zAb,if_pos (zB2 (by simp;omega)),zAJ (by omega)])
  p 0 [] rfl rfl
 exact h
def zPj (z:List Int):Int:=at' z ((zGc z).getD (0,0)).1
theorem zYP {f:Int} {z:List Int} (h0:z≠[]) (hz:I64s z) (hl:z.length≤4096) (hf:0≤f∧f≤30):zHM f z=some (zIv (zPj z) f z)∧zGT f z=some (zIv (zPj z) f z):=by
 obtain ⟨j,j1,j2,j3,j4⟩:=zY2 h0 hl
 have hJ:J64 (at' z (j:Int)):=hz _ (by rw [zD4,List.getD_eq_getElem?_getD,List.getElem?_eq_getElem j1];simp)
 have a1:=zSH hz hl hf j1 j2 hJ z 0 0 [] (List.replicate z.length 0) rfl rfl (by simp)
 have a2:=zPP hz hl hf j1 j2 hJ z 0 0 [] rfl rfl
 rw [show ((0:Nat):Int)=0 from rfl] at a1 a2
 rw [List.nil_append] at a1
 have pJ:I64s (mapE (powP (at' z (j:Int)) f) z).1:=zIM fun x=>zZr _ _ _
 have pl:(mapE (powP (at' z (j:Int)) f) z).1.length≤4096:=by
  by_cases h:(mapE (powP (at' z (j:Int)) f) z).2=0
  ·rw [zB6 _ _ h];exact hl
  ·rw [zCv _ _ h];simp
 rw [show zPj z=at' z (j:Int) by rw [zPj,j3];rfl]
 refine ⟨?_, ?_⟩
 ·rw [zHM,j3,zAb,if_pos rfl,if_neg (by omega),if_neg (by omega),zAb,if_neg (by simp),if_pos (by omega),zAb,Int.toNat_natCast,a1,zAb,zIv,endS]
  by_cases h:(mapE (powP (at' z (j:Int)) f) z).2≠0
  ·rw [if_pos h,if_pos h]
  ·rw [if_neg h,if_neg h]
   simp only
   rw [List.nil_append,zZk pJ (zRO _ _ J0) pl]
   exact zEY _ (fun _=>rfl) (fun _=>rfl) (zCv _ _)
 ·rw [zGT,j4,zAb,if_neg (by simp),orB,if_neg (by simp only [Bool.or_eq_true,decide_eq_true_eq];omega),a2,zAb,zIv,endS]
  by_cases h:(mapE (powP (at' z (j:Int)) f) z).2≠0
  ·rw [if_pos h,if_pos h]
  ·rw [if_neg h,if_neg h]
   simp only
   rw [List.nil_append,zYA pJ (zRO _ _ J0) pl]
   exact zEY _ (fun _=>rfl) (fun _=>rfl) (zCv _ _)
theorem zW5 {m f:Int} {z:List Int} (h:(zIv m f z).2=0):(zIv m f z).1.length=z.length:=by
 unfold zIv at h⊢
 by_cases g:(mapE (powP m f) z).2≠0
 ·rw [if_pos g] at h;exact absurd h g
 ·rw [if_neg g] at h⊢;rw [zB6 _ _ h,zB6 _ _ (by omega)]
theorem zYx {m f:Int} {z:List Int}:I64s (zIv m f z).1:=by
 unfold zIv;split
 ·intro y hy;cases hy
 ·exact zIM fun x=>zVT _ _ _
end Go.Proofs.YtnmlihfpenjeiaaGreat.Abs
