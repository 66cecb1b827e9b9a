/- Plain facts: the samples that a worker sees are different ones, and are there (draw.Pick, conf.Picks). Conditions: none. -/
import Derived.Test.YtnmlihfpenjeiaaGreatFX16
import Derived.Test.YtnmlihfpenjeiaaGreatPY5
namespace Go.Proofs.YtnmlihfpenjeiaaGreat.Abs
open Go Go.RowKit Go.IntWalk
set_option linter.unusedVariables false
set_option linter.unusedSimpArgs false
set_option linter.unnecessarySimpa false
set_option maxRecDepth 100000
def good (n:Nat) (x:List Int):Prop:=x.length=n∧(∀i:Nat,i<n→0≤at' x (i:Int)∧at' x (i:Int)<(n:Int))∧∀i j:Nat,i<n→j<n→at' x (i:Int)=at' x (j:Int)→i=j
theorem zSZ {x:List Int} {a i:Nat} {v:Int} (ha:a<x.length):at' (x.set a v) (i:Int)=if a=i then v else at' x (i:Int):=by
 rw [zD4,zD4,List.getD_eq_getElem?_getD,List.getD_eq_getElem?_getD,List.getElem?_set]
 by_cases h:a=i
 ·rw [if_pos h,if_pos (by omega),if_pos h];rfl
 ·rw [if_neg h,if_neg h]
theorem zWl {n:Nat} {x:List Int} {a b:Nat} (h:good n x) (ha:a<n) (hb:b<n):good n ((x.set a (at' x (b:Int))).set b (at' x (a:Int))):=by
 obtain ⟨h1,h2,h3⟩:=h
 have e:∀i:Nat,at' ((x.set a (at' x (b:Int))).set b (at' x (a:Int))) (i:Int)=at' x ((if b=i then a else if a=i then b else i:Nat):Int):=fun i=>by
  rw [zSZ (by simp;omega),zSZ (by omega)]
  by_cases c:b=i
  ·rw [if_pos c,if_pos c]
  ·rw [if_neg c,if_neg c]
   by_cases d:a=i
   ·rw [if_pos d,if_pos d]
   ·rw [if_neg d,if_neg d]
 have hb2:∀i:Nat,i<n→(if b=i then a else if a=i then b else i)<n:=fun i hi=>by split;omega;split<;>omega
 refine ⟨by simp [h1],fun i hi=>by rw [e];exact h2 _ (hb2 i hi),fun i j hi hj hij=> ?_⟩
 rw [e,e] at hij
 have:=h3 _ _ (hb2 i hi) (hb2 j hj) hij
 by_cases c1:b=i<;>by_cases c2:b=j<;>by_cases c3:a=i<;>by_cases c4:a=j<;>simp only [c1,c2,c3,c4,if_true,if_false] at this<;>first | omega | (subst_vars;simp_all) | (simp_all;done)
theorem zW6 (a b:Int) (l y:List Int) (hy:y.length≤4096):∀(j k:Nat) (x:List Int),k+j=y.length→x.length=y.length→(∀i:Nat,i<k→at' x (i:Int)=(i:Int))→∃r:List Int,zBN a b l y (k:Int) x=some r∧r.length=y.length∧∀i:Nat,i<y.length→at' r (i:Int)=(i:Int)
 | 0,k,x,e,hx,hi=>⟨x,by rw [zBN,if_neg (by omega)],hx,fun i h=>hi i (by omega)⟩
 | j+1,k,x,e,hx,hi=>by
  obtain ⟨r,h1,h2,h3⟩:=zW6 a b l y hy j (k+1) (x.set (Int.toNat (k:Int)) (k:Int)) (by omega) (by simpa using hx) (fun i h=>by
   rw [Int.toNat_natCast,zSZ (by omega)]
   by_cases c:k=i
   ·rw [if_pos c,c]
   ·rw [if_neg c];exact hi i (by omega))
  exact ⟨r,by rw [zBN,if_pos (by omega),if_pos (by omega),zAJ (by omega),h1],h2,h3⟩
theorem zWz (r4:Int) (n:Nat) (hn:n≤4096):∀(j:Nat) (x:List Int),j≤n→good n x→∃r:List Int,zBq r4 ((j:Int)-1) x=some r∧good n r
 | 0,x,h4,hx=>⟨x,by rw [zBq,if_neg (by omega)],hx⟩
 | 1,x,h4,hx=>⟨x,by rw [zBq,if_neg (by omega)],hx⟩
 | j+2,x,h4,hx=>by
  have hl:=hx.1
  have hj:(((j+2:Nat):Int)-1)=((j+1:Nat):Int):=by omega
  rw [hj]
  have hw:IntKind.u64.wrap (IntKind.i64.wrap (((j+1:Nat):Int)+1))=((j+2:Nat):Int):=by rw [i64_in _ (by omega),u64_in _ (by omega)];omega
  have hwith:zBp r4 ((j+1:Nat):Int)=some (zEi r4 ((j+1:Nat):Int)):=by rw [zBp];rfl
  have hend:zCc (zEi r4 ((j+1:Nat):Int))=some (zHn (zEi r4 ((j+1:Nat):Int))):=by rw [zCc];rfl
  have hge:0≤zHn (zEi r4 ((j+1:Nat):Int)):=by
   have:=zSD r4 [((j+1:Nat):Int)]
   exact this.1
  obtain ⟨k,hk,hk2⟩:∃k:Nat,Int.tmod (zHn (zEi r4 ((j+1:Nat):Int))) ((j+2:Nat):Int)=(k:Int)∧k<j+2:=by
   have h1:=Int.tmod_nonneg ((j+2:Nat):Int) hge
   have h2:=Int.tmod_lt_of_pos (zHn (zEi r4 ((j+1:Nat):Int))) (b:=((j+2:Nat):Int)) (by omega)
   exact ⟨(Int.tmod (zHn (zEi r4 ((j+1:Nat):Int))) ((j+2:Nat):Int)).toNat,by omega,by omega⟩
  have hs:IntKind.i64.wrap (((j+1:Nat):Int)-1)=((j+1:Nat):Int)-1:=i64_in _ (by omega)
  obtain ⟨r,h1,h2⟩:=zWz r4 n hn (j+1) ((x.set (j+1) (at' x (k:Int))).set k (at' x ((j+1:Nat):Int))) (by omega) (zWl hx (by omega) (by omega))
  refine ⟨r, ?_,h2⟩
  rw [zBq,if_pos (by omega),hwith,zAb,hend,zAb,hw,if_pos (by omega),hk,if_pos (by omega),if_pos (by omega),if_pos (by omega),if_pos (by simp;omega),zAb,hs,Int.toNat_natCast,Int.toNat_natCast,h1]
theorem zZm (n:Nat) (seed:Int) (l:List Int) (hn:n≤4096) (hl:l.length≤1000):∃r:List Int,zEZ (n:Int) seed l=some (r,0)∧good n r:=by
 obtain ⟨r,h1,h2,h3⟩:=zW6 (n:Int) seed l (List.replicate (Int.toNat (n:Int)) 0) (by simp;omega) n 0 (List.replicate (Int.toNat (n:Int)) 0) (by simp) rfl (fun i h=>by omega)
 have e:(List.replicate (Int.toNat (n:Int)) (0:Int)).length=n:=by simp
 rw [e] at h2 h3
 have hg:good n r:=⟨h2,fun i hi=>by rw [h3 i hi];omega,fun i j hi hj hij=>by rw [h3 i hi,h3 j hj] at hij;omega⟩
 obtain ⟨q,g1,g2⟩:=zWz (l.foldl zEi seed) n hn n r (by omega) hg
 have ho:=zQA l (by omega) l 0 seed rfl
 rw [show ((0:Nat):Int)=0 from rfl] at h1 ho
 refine ⟨q, ?_,g2⟩
 rw [zEZ,if_neg (by omega),if_neg (by omega),if_pos ⟨by omega,by omega,by omega,by omega⟩,zAb,h1,zAb,zIr,ho,zAb,zAb,i64_in _ (by omega),g1,zAb]
def zLQ (c:zAl) (w s:Int):Prop:=((0≤s∧s≤1073741824)∧zGY c)∧0≤w∧w<c.F_N
def zMU (n k:Nat) (p:List Int):Prop:=p.length=k∧(∀i:Nat,i<k→0≤at' p (i:Int)∧at' p (i:Int)<(n:Int))∧∀i j:Nat,i<k→j<k→at' p (i:Int)=at' p (j:Int)→i=j
theorem zQM {x:List Int} {k i:Nat} (h:i<k):at' (x.take k) (i:Int)=at' x (i:Int):=by
 rw [zD4,zD4,List.getD_eq_getElem?_getD,List.getD_eq_getElem?_getD,List.getElem?_take,if_pos h]
theorem zWM {n k:Nat} {x:List Int} (h:good n x) (hk:k≤n):zMU n k (x.take k):=by
 obtain ⟨h1,h2,h3⟩:=h
 refine ⟨by rw [List.length_take];omega,fun i hi=>by rw [zQM hi];exact h2 i (by omega),fun i j hi hj e=> ?_⟩
 rw [zQM hi,zQM hj] at e
 exact h3 i j (by omega) (by omega) e
theorem zYo {k n:Nat} (seed:Int) (l:List Int) (hk:k≤n) (hn:n≤4096) (hl:l.length≤1000):∃p,zEJ (k:Int) (n:Int) seed l=some (p,0)∧zMU n k p:=by
 obtain ⟨r,h1,h2⟩:=zZm n seed l hn hl
 have hc:=zN3 r k (by have:=h2.1;omega)
 rw [zEJ,orB,if_neg (by simp only [Bool.or_eq_true,decide_eq_true_eq];omega),h1,zAb,if_neg (by simp)]
 simp only
 rw [if_pos hc.2.1,hc.2.2]
 exact ⟨_,rfl,zWM h2 hk⟩
theorem zNj {c:zAl} (hl:c.F_L.length≤4398046511000) (w s:Int):(zLQ c w s→zCN c w s=zEJ c.F_Batch (c.F_L.length:Int) c.F_Seed [w,s]>>=fun r=>some (r.1,r.2))∧(¬zLQ c w s→zCN c w s=some ([],1)):=by
 rw [zCN,zYc c hl,zAb]
 simp only [orB,zKz,zAb]
 refine ⟨fun h=> ?_,fun h=> ?_⟩
 ·obtain ⟨⟨h1,h2⟩,h3,h4⟩:=h
  have hN:=h2.2.2.1.1
  rw [if_neg (by rw [i64_in _ (by omega)];simp [h1,h2];omega)]
 ·by_cases g:(0≤s∧s≤1073741824)∧zGY c
  ·have hN:=g.2.2.2.1.1
   have:¬(0≤w∧w<c.F_N):=fun q=>h ⟨g,q⟩
   rw [if_pos (by simp only [Bool.or_eq_true,decide_eq_true_eq];right;rw [i64_in _ (by omega)];simp;omega)]
  ·rw [if_pos (by simp [g])]
theorem zUT {c:zAl} (hl:c.F_L.length≤4398046511000) {w s:Int} (h:zLQ c w s):∃p,zCN c w s=some (p,0)∧zEJ c.F_Batch (c.F_L.length:Int) c.F_Seed [w,s]=some (p,0)∧zMU c.F_L.length c.F_Batch.toNat p:=by
 have hL:=h.1.2.2.2.2.1
 obtain ⟨p,p1,p2⟩:=zYo (k:=c.F_Batch.toNat) (n:=c.F_L.length) c.F_Seed [w,s] (by omega) (by omega) (by simp)
 rw [zBL (by omega)] at p1
 exact ⟨p,by rw [(zNj hl w s).1 h,p1,zAb],p1,p2⟩
end Go.Proofs.YtnmlihfpenjeiaaGreat.Abs
