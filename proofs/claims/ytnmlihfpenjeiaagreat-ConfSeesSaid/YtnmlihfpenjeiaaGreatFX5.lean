/- Plain facts: what is worked out at each place, till it goes wrong; vectors (vec, and the document's). Conditions: none. -/
import Derived.Test.YtnmlihfpenjeiaaGreatFX4
namespace Go.Proofs.YtnmlihfpenjeiaaGreat.Abs
open Go Go.RowKit Go.IntWalk
set_option linter.unusedVariables false
set_option linter.unusedSimpArgs false
set_option linter.unnecessarySimpa false
set_option maxRecDepth 100000
def I64s (v:List Int):Prop:=∀n∈v,J64 n
theorem zEg {v:List Int} (hi:I64s v) {k:Nat} {x:Int} {t:List Int} (h:v.drop k=x::t):J64 x:=hi x (by
 have:x∈v.drop k:=by rw [h];simp
 exact List.mem_of_mem_drop this)
theorem ov_J (x:Int):J64 (ov x).1:=by unfold ov;split<;>unfold J64 at* <;>simp_all
theorem zNa (a b f:Int):J64 (mulP a b f).1:=by
 unfold mulP;split
 ·split<;>unfold J64 at* <;>simp_all
 ·unfold J64;simp
theorem zVT (a b f:Int):J64 (divP a b f).1:=by
 unfold divP;split
 ·exact ov_J _
 ·unfold J64;simp
def mapE {α β:Type} (f:α→β×Int):List α→List β×Int
 | []=>([],0)
 | x::t=>if (f x).2≠0 then ([],(f x).2) else if (mapE f t).2≠0 then ([],(mapE f t).2) else ((f x).1::(mapE f t).1,0)
def endE {β γ:Type} (pre:List β) (r:List β×Int):Sum (List γ×Int) (List β):=if r.2≠0 then .inl ([],r.2) else .inr (pre++r.1)
theorem zCv {α β:Type} (f:α→β×Int):∀l:List α,(mapE f l).2≠0→(mapE f l).1=[]
 | [],h=>rfl
 | x::t,h=>by
  rw [mapE] at h⊢
  split
  ·rfl
  ·rename_i h1;rw [if_neg h1] at h
   split
   ·rfl
   ·rename_i h2;rw [if_neg h2] at h;simp at h
theorem zB6 {α β:Type} (f:α→β×Int):∀l:List α,(mapE f l).2=0→(mapE f l).1.length=l.length
 | [],h=>rfl
 | x::t,h=>by
  rw [mapE] at h⊢
  split at h
  ·exact absurd h ‹_›
  ·rename_i h1
   split at h
   ·exact absurd h ‹_›
   ·rename_i h2
    rw [if_neg h1,if_neg h2];simp [zB6 f t (by omega)]
theorem zEr {α β:Type} {f:α→β×Int} {P:β→Prop}:∀l:List α,(∀x∈l,(f x).2=0→P (f x).1)→∀y∈(mapE f l).1,P y
 | [],h,y,hy=>by simp [mapE] at hy
 | x::t,h,y,hy=>by
  rw [mapE] at hy
  split at hy
  ·cases hy
  ·rename_i h1
   split at hy
   ·cases hy
   ·rcases List.mem_cons.1 hy with rfl | hy
    ·exact h x (by simp) (by omega)
    ·exact zEr t (fun z hz=>h z (by simp [hz])) y hy
theorem zIM {α:Type} {f:α→Int×Int} {l:List α} (h:∀x,J64 (f x).1):I64s (mapE f l).1:=zEr l fun x _ _=>h x
theorem zKr {α β γ:Type} (f:α→β×Int) (pre:List β) (x:α) (t:List α):(endE pre (mapE f (x::t)):Sum (List γ×Int) (List β))=if (f x).2≠0 then .inl ([],(f x).2) else endE (pre++[(f x).1]) (mapE f t):=by
 rw [mapE]
 by_cases h:(f x).2≠0
 ·rw [if_pos h,if_pos h,endE,if_pos h]
 ·rw [if_neg h,if_neg h]
  by_cases g:(mapE f t).2≠0
  ·rw [if_pos g,endE,if_pos g,endE,if_pos g]
  ·rw [if_neg g,endE,if_neg (by simp),endE,if_neg g];simp
theorem zEY {β:Type} {r:List β×Int} (K:Sum (List β×Int) (List β)→Option (List β×Int)) (h1:∀q,K (.inl q)=some q) (h2:∀q,K (.inr q)=some (q,0)) (h:r.2≠0→r.1=[]):((some (endE [] r):Option (Sum (List β×Int) (List β)))>>=K)=some r:=by
 obtain ⟨a,b⟩:=r
 rw [endE]
 by_cases g:b≠0
 ·have:=h g
  simp only at this
  subst this
  rw [if_pos g,zAb,h1]
 ·have:b=0:=by omega
  subst this
  rw [if_neg (by simp),zAb,h2];rfl
theorem zTg {β:Type} {r:List β×Int} (K:Sum (List β×Int) (List β)→Option (List β×Int)) (K2:List β×Int→Option (List β×Int)) (h1:∀q,K (.inl q)=some q) (h2:∀q,K (.inr q)=some (q,0)) (h3:∀q,K2 q=some q) (h:r.2≠0→r.1=[]):(((some (endE [] r):Option (Sum (List β×Int) (List β)))>>=K)>>=K2)=some r:=by
 rw [zEY K h1 h2 h,zAb,h3]
theorem zS1 {α:Type} {l:List α} {k:Nat} (h:l.drop k=[]):l.length≤k:=List.drop_eq_nil_iff.1 h
theorem zMz {α:Type} {pre r:List α} {x y:α} {k:Nat} (h:pre.length=k):(pre++x::r).set k y=pre++y::r:=by
 subst h;simp
theorem zOB {α:Type} {l t:List α} {k:Nat} {x:α} (h:l.drop k=x::t):l.drop (k+1)=t:=by
 rw [←List.drop_drop,h];rfl
theorem zWR {α:Type} {l t:List α} {x:α} {k:Nat} (h:l.drop k=x::t):l.length=k+1+t.length:=by
 have:=congrArg List.length h
 simp at this;omega
theorem setE {α:Type} (F:Int→List Int→Option (Sum (List Int×Int) (List Int))) (f:α→Int×Int) (l:List α)
  (hE:∀(k:Nat) out,l.length≤k→F (k:Int) out=some (.inr out))
  (hF:∀(k:Nat) out x t,l.drop k=x::t→out.length=l.length→F (k:Int) out=if (f x).2≠0 then some (.inl ([],(f x).2)) else F ((k+1:Nat):Int) (out.set k (f x).1)):
  ∀(t:List α) (k:Nat) (pre rest:List Int),l.drop k=t→pre.length=k→rest.length=t.length→F (k:Int) (pre++rest)=some (endE pre (mapE f t))
 | [],k,pre,rest,h,hp,hr=>by
  rw [hE k _ (zS1 h),List.eq_nil_of_length_eq_zero hr]
  simp [endE,mapE]
 | x::t,k,pre,[],h,hp,hr=>by simp at hr
 | x::t,k,pre,y::rest,h,hp,hr=>by
  have g:=zOB h
  have gc:=zWR h
  rw [hF k _ x t h (by simp at hr⊢;omega),zKr]
  by_cases hx:(f x).2≠0
  ·rw [if_pos hx,if_pos hx]
  ·rw [if_neg hx,if_neg hx,zMz hp]
   have:=setE F f l hE hF t (k+1) (pre++[(f x).1]) rest g (by simp [hp]) (by simpa using hr)
   rw [←this];simp
theorem appE {α β γ:Type} (F:Int→List β→Option (Sum (List γ×Int) (List β))) (f:α→β×Int) (l:List α)
  (hE:∀(k:Nat) out,l.length≤k→F (k:Int) out=some (.inr out))
  (hF:∀(k:Nat) out x t,l.drop k=x::t→out.length=k→F (k:Int) out=if (f x).2≠0 then some (.inl ([],(f x).2)) else F ((k+1:Nat):Int) (out++[(f x).1])):
  ∀(t:List α) (k:Nat) (pre:List β),l.drop k=t→pre.length=k→F (k:Int) pre=some (endE pre (mapE f t))
 | [],k,pre,h,hp=>by
  rw [hE k _ (zS1 h)]
  simp [endE,mapE]
 | x::t,k,pre,h,hp=>by
  have g:=zOB h
  rw [hF k _ x t h hp,zKr]
  by_cases hx:(f x).2≠0
  ·rw [if_pos hx,if_pos hx]
  ·rw [if_neg hx,if_neg hx,appE F f l hE hF t (k+1) _ g (by simp [hp])]
def totE {α:Type} (f:α→Int×Int):Int→List α→Int×Int
 | acc,[]=>(acc,0)
 | acc,x::t=>if (f x).2≠0 then (0,(f x).2) else if (ov (acc+(f x).1)).2≠0 then (0,(ov (acc+(f x).1)).2) else totE f (ov (acc+(f x).1)).1 t
theorem zWY {α:Type} (f:α→Int×Int):∀(l:List α) (acc:Int),J64 acc→J64 (totE f acc l).1
 | [],acc,h=>h
 | x::t,acc,h=>by
  rw [totE];repeat' split
  ·unfold J64;simp
  ·unfold J64;simp
  ·exact zWY f t _ (ov_J _)
def endT (r:Int×Int):Sum (Int×Int) Int:=if r.2≠0 then .inl r else .inr r.1
theorem zUB {r:Int×Int} (K:Sum (Int×Int) Int→Option (Int×Int)) (h1:∀q,K (.inl q)=some q) (h2:∀q,K (.inr q)=some (q,0)):((some (endT r):Option (Sum (Int×Int) Int))>>=K)=some r:=by
 obtain ⟨a,b⟩:=r
 rw [endT]
 by_cases g:b≠0
 ·rw [if_pos g,zAb,h1]
 ·have:b=0:=by omega
  subst this
  rw [if_neg (by simp),zAb,h2]
theorem zXZ {r:Int×Int} (K:Sum (Int×Int) Int→Option (Int×Int)) (K2:Int×Int→Option (Int×Int)) (h1:∀q,K (.inl q)=some q) (h2:∀q,K (.inr q)=some (q,0)) (h3:∀q,K2 q=some q):(((some (endT r):Option (Sum (Int×Int) Int))>>=K)>>=K2)=some r:=by
 rw [zUB K h1 h2,zAb,h3]
theorem totL {α:Type} (F:Int→Int→Option (Sum (Int×Int) Int)) (f:α→Int×Int) (l:List α)
  (hE:∀(k:Nat) acc,l.length≤k→F (k:Int) acc=some (.inr acc))
  (hF:∀(k:Nat) acc x t,l.drop k=x::t→J64 acc→F (k:Int) acc=if (f x).2≠0 then some (.inl (0,(f x).2)) else if (ov (acc+(f x).1)).2≠0 then some (.inl (0,(ov (acc+(f x).1)).2)) else F ((k+1:Nat):Int) (ov (acc+(f x).1)).1):
  ∀(t:List α) (k:Nat) (acc:Int),l.drop k=t→J64 acc→F (k:Int) acc=some (endT (totE f acc t))
 | [],k,acc,h,hp=>by
  rw [hE k _ (zS1 h)]
  simp [endT,totE]
 | x::t,k,acc,h,hp=>by
  rw [hF k _ x t h hp,totE]
  by_cases hx:(f x).2≠0
  ·rw [if_pos hx,if_pos hx,endT,if_pos hx]
  ·rw [if_neg hx,if_neg hx]
   by_cases hy:(ov (acc+(f x).1)).2≠0
   ·rw [if_pos hy,if_pos hy,endT,if_pos hy]
   ·rw [if_neg hy,if_neg hy,totL F f l hE hF t (k+1) _ (zOB h) (ov_J _)]
theorem zRh (v:List Int):zDO v=some (if 4096<v.length then 3 else 0):=by
 rw [zDO]
 by_cases h:4096<v.length
 ·rw [if_pos (by omega),if_pos h]
 ·rw [if_neg (by omega),if_neg h]
theorem zLZ {v:List Int} (h:v.length≤4096):zDO v=some 0:=by rw [zRh,if_neg (by omega)]
theorem zQ0 {f:Int} (hf:0≤f∧f≤30):zGr f=some 0:=by
 rw [zGr,zNw (by unfold J64;omega) (by unfold J64;omega),zAb,mulP,if_pos hf,Int.zero_mul,Int.zero_ediv,if_pos (by unfold J64;omega)]
theorem zM3 {v:List Int} {a f:Int} (hv:I64s v) (ha:J64 a) (hf:0≤f∧f≤30) (hl:v.length≤4096):zFV v a f=some (mapE (fun x=>mulP x a f) v):=by
 have h:=setE (fun k out=>zA4 v a f (List.replicate v.length 0) k out) (fun x=>mulP x a f) v
  (fun k out hk=>by
   show zA4 _ _ _ _ _ _=_
   rw [zA4,if_neg (by simp;omega)])
  (fun k out x t hx ho=>by
   have g:=zAw hx
   show zA4 _ _ _ _ _ _=_
   rw [zA4,if_pos (by simp;omega),zFW,if_pos (by omega),g.2.1,zNw (zEg hv hx) ha,zAb,zAb,if_pos (by omega),zAb,zAJ (by omega),Int.toNat_natCast])
  v 0 [] (List.replicate v.length 0) rfl rfl (by simp)
 rw [show ((0:Nat):Int)=0 from rfl,List.nil_append] at h
 rw [zFV,zLZ hl,zAb,if_pos rfl,zQ0 hf,zAb,zAb,if_neg (by simp),zEL,if_pos (by omega),zAb,Int.toNat_natCast,h];exact zTg _ _ (fun _=>rfl) (fun _=>rfl) (fun _=>rfl) (zCv _ _)
theorem zJt {v:List Int} {a f:Int} (hv:I64s v) (ha:J64 a) (hf:0≤f∧f≤30) (hl:v.length≤4096):zC9 v a f=some (mapE (fun x=>mulP x a f) v):=by
 have h:=appE (fun k out=>zBM v a f k out) (fun x=>mulP x a f) v
  (fun k out hk=>by
   show zBM _ _ _ _ _=_
   rw [zBM,if_neg (by omega)])
  (fun k out x t hx ho=>by
   have g:=zAw hx
   show zBM _ _ _ _ _=_
   rw [zBM,if_pos (by omega),if_pos (by omega),g.2.1,zOC (zEg hv hx) ha,zAb,if_pos (zB2 (by simp;omega)),zAJ (by omega)])
  v 0 [] rfl rfl
 rw [show ((0:Nat):Int)=0 from rfl] at h
 rw [zC9,if_neg (by omega),orB,if_neg (by simp;omega),h];exact zEY _ (fun _=>rfl) (fun _=>rfl) (zCv _ _)
theorem zLg {a b:List Int} {k:Nat} {p:Int×Int} {t:List (Int×Int)} (h:(List.zip a b).drop k=p::t):∃u v,a.drop k=p.1::u∧b.drop k=p.2::v:=by
 rw [List.zip,List.drop_zipWith] at h
 cases ha:a.drop k with
 | nil=>rw [ha] at h;simp at h
 | cons x u=>
  cases hb:b.drop k with
  | nil=>rw [ha,hb] at h;simp at h
  | cons y v=>
   rw [ha,hb] at h
   simp only [List.zipWith_cons_cons,List.cons.injEq] at h
   rw [←h.1];exact ⟨u,v,rfl,rfl⟩
def dotP (a b:List Int) (f:Int):Int×Int:=totE (fun p:Int×Int=>mulP p.1 p.2 f) 0 (List.zip a b)
theorem J0:J64 0:=by unfold J64;omega
theorem zY8 {a b:List Int} {f:Int} (ha:I64s a) (hb:I64s b) (hf:0≤f∧f≤30) (hl:a.length≤4096) (he:a.length=b.length):zKD a b f=some (dotP a b f):=by
 have h:=totL (fun k acc=>zAU (a.length:Int) a b f k acc) (fun p:Int×Int=>mulP p.1 p.2 f) (List.zip a b)
  (fun k acc hk=>by
   show zAU _ _ _ _ _ _=_
   rw [zAU,if_neg (by simp at hk;omega)])
  (fun k acc x t hx ho=>by
   obtain ⟨u,v,h1,h2⟩:=zLg hx
   have g1:=zAw h1
   have g2:=zAw h2
   show zAU _ _ _ _ _ _=_
   rw [zAU,if_pos (by omega),zGL,if_pos (by omega),if_pos (by omega),g1.2.1,g2.2.1,zNw (zEg ha h1) (zEg hb h2),zAb,zAb]
   by_cases hz:(mulP x.1 x.2 f).2=0
   ·rw [if_pos hz,if_neg (by omega),zQy ho (zNa _ _ _),zAb,zAJ (by omega)]
   ·rw [if_neg hz,if_pos hz,if_pos hz])
  (List.zip a b) 0 0 rfl J0
 rw [show ((0:Nat):Int)=0 from rfl] at h
 rw [zKD,zHR,if_neg (by split<;>omega),if_neg (by omega),zAb,if_pos rfl,zQ0 hf,zAb,zAb,if_neg (by simp),zE8,h];exact zXZ _ _ (fun _=>rfl) (fun _=>rfl) (fun _=>rfl)
theorem zXt {a b:List Int} {f:Int} (ha:I64s a) (hb:I64s b) (hf:0≤f∧f≤30) (hl:a.length≤4096) (he:a.length=b.length):zHj a b f=some (dotP a b f):=by
 have h:=totL (fun k acc=>zB7 a b f k acc) (fun p:Int×Int=>mulP p.1 p.2 f) (List.zip a b)
  (fun k acc hk=>by
   show zB7 _ _ _ _ _=_
   rw [zB7,if_neg (by simp at hk;omega)])
  (fun k acc x t hx ho=>by
   obtain ⟨u,v,h1,h2⟩:=zLg hx
   have g1:=zAw h1
   have g2:=zAw h2
   show zB7 _ _ _ _ _=_
   rw [zB7,if_pos (by omega),if_pos (by omega),if_pos (by omega),g1.2.1,g2.2.1,zOC (zEg ha h1) (zEg hb h2),zAb,zOj ho (zNa _ _ _),zAb,zAJ (by omega)])
  (List.zip a b) 0 0 rfl J0
 rw [show ((0:Nat):Int)=0 from rfl] at h
 rw [zHj,zFA,orB,if_neg (by simp;omega),if_neg (by omega),zAb,if_neg (by simp),orB,if_neg (by simp;omega),h];exact zUB _ (fun _=>rfl) (fun _=>rfl)
def addP (a b:List Int):List Int×Int:=if 4096<a.length∨4096<b.length then ([],3) else if a.length≠b.length then ([],4) else mapE (fun p:Int×Int=>ov (p.1+p.2)) (List.zip a b)
theorem zWp (a b:List Int):I64s (addP a b).1:=by
 unfold addP;repeat' split
 ·intro n hn;cases hn
 ·intro n hn;cases hn
 ·exact zIM fun _=>ov_J _
theorem zXR {a b:List Int} (h:(addP a b).2=0):(addP a b).1.length=a.length∧a.length=b.length∧a.length≤4096:=by
 unfold addP at*
 split at h
 ·simp at h
 ·rename_i h1
  split at h
  ·simp at h
  ·rename_i h2
   rw [if_neg h1,if_neg h2,zB6 _ _ h];simp;omega
theorem zYV {a b:List Int} (ha:I64s a) (hb:I64s b):zKl a b=some (addP a b):=by
 rw [zKl,zHR,addP]
 by_cases h1:4096<a.length∨4096<b.length
 ·rw [if_pos (by split<;>omega),if_pos h1];rfl
 rw [if_neg (by split<;>omega),if_neg h1]
 by_cases he:a.length≠b.length
 ·rw [if_pos (by omega),if_pos he];rfl
 have h:=setE (fun k out=>zBa a b (List.replicate a.length 0) k out) (fun p:Int×Int=>ov (p.1+p.2)) (List.zip a b)
  (fun k out hk=>by
   show zBa _ _ _ _ _=_
   rw [zBa,if_neg (by simp at hk⊢;omega)])
  (fun k out x t hx ho=>by
   obtain ⟨u,v,h1,h2⟩:=zLg hx
   have g1:=zAw h1
   have g2:=zAw h2
   have:out.length=a.length:=by rw [ho];simp;omega
   show zBa _ _ _ _ _=_
   rw [zBa,if_pos (by simp;omega),zHA,if_pos (by omega),if_pos (by omega),g1.2.1,g2.2.1,zQy (zEg ha h1) (zEg hb h2),zAb,zAb,if_pos (by omega),zAb,zAJ (by omega),Int.toNat_natCast])
  (List.zip a b) 0 [] (List.replicate a.length 0) rfl rfl (by simp;omega)
 rw [show ((0:Nat):Int)=0 from rfl,List.nil_append] at h
 rw [if_neg (by omega),if_neg he,zAb,if_neg (by simp),zFv,if_pos (by omega),zAb,Int.toNat_natCast,h];exact zTg _ _ (fun _=>rfl) (fun _=>rfl) (fun _=>rfl) (zCv _ _)
theorem zX1 {a b:List Int} (ha:I64s a) (hb:I64s b):zHc a b=some (addP a b):=by
 rw [zHc,zFA,orB,addP]
 by_cases h1:4096<a.length∨4096<b.length
 ·rw [if_pos (by simp;omega),if_pos h1];rfl
 rw [if_neg (by simp;omega),if_neg h1]
 by_cases he:a.length≠b.length
 ·rw [if_pos (by omega),if_pos he];rfl
 have h:=appE (fun k out=>zB5 a b k out) (fun p:Int×Int=>ov (p.1+p.2)) (List.zip a b)
  (fun k out hk=>by
   show zB5 _ _ _ _=_
   rw [zB5,if_neg (by simp at hk⊢;omega)])
  (fun k out x t hx ho=>by
   obtain ⟨u,v,h1,h2⟩:=zLg hx
   have g1:=zAw h1
   have g2:=zAw h2
   show zB5 _ _ _ _=_
   rw [zB5,if_pos (by omega),if_pos (by omega),if_pos (by omega),g1.2.1,g2.2.1,zOj (zEg ha h1) (zEg hb h2),zAb,if_pos (zB2 (by simp;omega)),zAJ (by omega)])
  (List.zip a b) 0 [] rfl rfl
 rw [show ((0:Nat):Int)=0 from rfl] at h
 rw [if_neg (by omega),if_neg he,zAb,if_neg (by simp),h];exact zEY _ (fun _=>rfl) (fun _=>rfl) (zCv _ _)
def sumF:List Int→List (List Int)→List Int×Int
 | acc,[]=>(acc,0)
 | acc,v::t=>if (addP acc v).2≠0 then ([],(addP acc v).2) else sumF (addP acc v).1 t
def sumP:List (List Int)→List Int×Int
 | []=>([],0)
 | v::t=>if 4096<v.length then ([],3) else sumF v t
theorem zWN:∀(l:List (List Int)) (acc:List Int),I64s acc→I64s (sumF acc l).1
 | [],acc,h=>h
 | v::t,acc,h=>by
  rw [sumF];split
  ·intro n hn;cases hn
  ·exact zWN t _ (zWp _ _)
theorem zZa {l:List (List Int)} (h:∀v∈l,I64s v):I64s (sumP l).1:=by
 cases l with
 | nil=>intro n hn;cases hn
 | cons v t=>
  rw [sumP];split
  ·intro n hn;cases hn
  ·exact zWN t v (h v (by simp))
theorem zN7:∀(l:List (List Int)) (acc:List Int),(sumF acc l).2≠0→(sumF acc l).1=[]
 | [],acc,h=>by simp [sumF] at h
 | v::t,acc,h=>by
  rw [sumF] at h⊢
  split
  ·rfl
  ·rename_i h1;rw [if_neg h1] at h;exact zN7 t _ h
theorem zSd:∀(l:List (List Int)) (acc:List Int),acc.length≤4096→(sumF acc l).1.length≤4096∧((sumF acc l).2=0→(sumF acc l).1.length=acc.length)
 | [],acc,h=>⟨h,fun _=>rfl⟩
 | v::t,acc,h=>by
  rw [sumF];split
  ·refine ⟨by simp,fun h'=>absurd h' ‹_›⟩
  ·have g:=zXR (a:=acc) (b:=v) (by omega)
   have:=zSd t (addP acc v).1 (by omega)
   rw [g.1] at this;exact this
theorem zTz {v:List Int} {l:List (List Int)}:(sumP (v::l)).1.length≤4096∧((sumP (v::l)).2=0→(sumP (v::l)).1.length=v.length):=by
 rw [sumP];split
 ·simp
 ·exact zSd l v (by omega)
theorem zUp (l:List (List Int)) (hl:l.length≤1000000) (hv:∀v∈l,I64s v):∀(t:List (List Int)) (k:Nat) (acc:List Int),l.drop k=t→1≤k→I64s acc→zCQ l (k:Int) acc=some (endE [] (sumF acc t))∧zBB l (k:Int) acc=some (endE [] (sumF acc t))
 | [],k,acc,h,hk,hc=>by
  refine ⟨?_, ?_⟩
  ·rw [zCQ,if_neg (zAP h)];simp [endE,sumF]
  ·rw [zBB,if_neg (zAP h)];simp [endE,sumF]
 | v::t,k,acc,h,hk,hc=>by
  have g:=zAw h
  have hm:v∈l:=by
   have:v∈l.drop k:=by rw [h];simp
   exact List.mem_of_mem_drop this
  have ih:=zUp l hl hv t (k+1) (addP acc v).1 g.2.2 (by omega) (zWp _ _)
  refine ⟨?_, ?_⟩
  ·rw [zCQ,if_pos g.1,if_pos (by omega),if_neg (by omega),g.2.1,zYV hc (hv v hm),zAb,zAJ (by omega),ih.1,sumF]
   by_cases hz:(addP acc v).2≠0
   ·rw [if_pos hz,if_pos hz,endE,if_pos hz]
   ·rw [if_neg hz,if_neg hz]
  ·rw [zBB,if_pos g.1,if_pos (by omega),if_neg (by omega),g.2.1,zX1 hc (hv v hm),zAb,zAJ (by omega),ih.2,sumF]
   by_cases hz:(addP acc v).2≠0
   ·rw [if_pos hz,if_pos hz,endE,if_pos hz]
   ·rw [if_neg hz,if_neg hz]
theorem zY5 {l:List (List Int)} (hl:l.length≤1000000) (hv:∀v∈l,I64s v) (hb:∀v∈l,v.length≤1000000):zIJ l=some (sumP l)∧zFD l=some (sumP l):=by
 cases l with
 | nil=>
  refine ⟨?_, ?_⟩
  ·rw [zIJ,zCQ,if_neg (by simp),zAb];rfl
  ·rw [zFD,zBB,if_neg (by simp),zAb];rfl
 | cons v t=>
  have h:=zUp (v::t) hl hv t 1 v rfl (by omega) (hv v (by simp))
  have hb':=hb v (by simp)
  have e:at' (v::t) 0=v:=rfl
  have w:IntKind.i64.wrap (0+1)=((1:Nat):Int):=by rw [IntKind.wrap_i64];rfl
  refine ⟨?_, ?_⟩
  ·rw [zIJ,zCQ,if_pos (by simp),if_pos (by simp),if_pos rfl,e,zBk,if_pos (zB2 (by simp;omega)),zAb,zRh,zAb,sumP]
   by_cases hc:4096<v.length
   ·rw [if_pos hc,if_pos hc];rfl
   ·rw [if_neg hc,if_neg hc,if_neg (by simp),List.nil_append,w,h.1];exact zEY _ (fun _=>rfl) (fun _=>rfl) (zN7 _ _)
  ·rw [zFD,zBB,if_pos (by simp),if_pos (by simp),if_pos rfl,e,zIF,sumP]
   by_cases hc:4096<v.length
   ·rw [if_pos (by omega),if_pos hc];rfl
   ·rw [if_neg (by omega),if_neg hc,zAb,if_neg (by simp),if_pos (zB2 (by simp;omega)),List.nil_append,w,h.2];exact zEY _ (fun _=>rfl) (fun _=>rfl) (zN7 _ _)
def zFw (n:Int) (l:List (List Int)):List Int×Int:=if n<1 then ([],1) else if (sumP l).2≠0 then ([],(sumP l).2) else mapE (fun x=>divP x n 0) (sumP l).1
theorem zRS {n:Int} {l:List (List Int)} (hn:J64 n) (hl:l.length≤1000000) (hv:∀v∈l,I64s v) (hb:∀v∈l,v.length≤4096):zEa n l=some (zFw n l)∧zDy n l=some (zFw n l):=by
 obtain ⟨s1,s2⟩:=zY5 hl hv (fun v h=>by have:=hb v h;omega)
 have hs:=zZa hv
 have hlen:(sumP l).1.length≤4096:=by
  cases l with
  | nil=>simp [sumP]
  | cons v t=>exact zTz.1
 rw [zEa,zDy,s1,s2,zAb,zAb,zFw]
 by_cases hn1:n<1
 ·exact ⟨by rw [if_pos hn1,if_pos hn1],by rw [if_pos hn1,if_pos hn1]⟩
 by_cases hz:(sumP l).2≠0
 ·exact ⟨by rw [if_neg hn1,if_neg hn1,if_pos hz,if_pos hz],by rw [if_neg hn1,if_neg hn1,if_pos hz,if_pos hz]⟩
 have key:∀(t:List Int) (k:Nat) (pre:List Int),I64s t→pre.length=k→k+t.length=(sumP l).1.length→zC1 n (sumP l) (k:Int) (pre++t)=some (endE pre (mapE (fun x=>divP x n 0) t)):=by
  intro t
  induction t with
  | nil=>
   intro k pre _ hp hr
   rw [zC1,if_neg (by simp at hr;omega)];simp [endE,mapE]
  | cons x t ih=>
   intro k pre ht hp hr
   have g:=zAw (l:=pre++x::t) (k:=k) (x:=x) (t:=t) (by subst hp;simp)
   have hr':k+1+t.length=(sumP l).1.length:=by simp at hr;omega
   have:=ih (k+1) (pre++[(divP x n 0).1]) (fun y hy=>ht y (by simp [hy])) (by simp [hp]) hr'
   rw [zC1,if_pos (by omega),if_pos ⟨by omega,g.1⟩,g.2.1,zXm (ht x (by simp)) hn,zAb,if_pos ⟨by omega,g.1⟩,zAb,zKr,Int.toNat_natCast,zMz hp,zAJ (by omega)]
   by_cases hx:(divP x n 0).2≠0
   ·rw [if_pos hx,if_pos hx]
   ·rw [if_neg hx,if_neg hx,←this];simp
 have k1:=key (sumP l).1 0 [] hs rfl (by simp)
 rw [show ((0:Nat):Int)=0 from rfl,List.nil_append] at k1
 have k2:=appE (fun k out=>zBV n (sumP l) k out) (fun x=>divP x n 0) (sumP l).1
  (fun k out hk=>by
   show zBV _ _ _ _=_
   rw [zBV,if_neg (by omega)])
  (fun k out x t hx ho=>by
   have g:=zAw hx
   show zBV _ _ _ _=_
   rw [zBV,if_pos (by omega),if_pos (by omega),g.2.1,zXa (zEg hs hx) hn,zAb,if_pos (zB2 (by simp;omega)),zAJ (by omega)])
  (sumP l).1 0 [] rfl rfl
 rw [show ((0:Nat):Int)=0 from rfl] at k2
 refine ⟨?_, ?_⟩
 ·rw [if_neg hn1,if_neg hn1,if_neg hz,if_neg hz,k1];exact zEY _ (fun _=>rfl) (fun _=>rfl) (zCv _ _)
 ·rw [if_neg hn1,if_neg hn1,if_neg hz,if_neg hz,k2];exact zEY _ (fun _=>rfl) (fun _=>rfl) (zCv _ _)
end Go.Proofs.YtnmlihfpenjeiaaGreat.Abs
