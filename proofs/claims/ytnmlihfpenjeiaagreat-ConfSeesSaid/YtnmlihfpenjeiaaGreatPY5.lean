/- Plain facts: the samples that a worker sees. Conditions: none. -/
import Derived.Test.YtnmlihfpenjeiaaGreatPY4
namespace Go.Proofs.YtnmlihfpenjeiaaGreat.Abs
open Go Go.RowKit Go.IntWalk
set_option linter.unusedVariables false
set_option linter.unusedSimpArgs false
set_option linter.unnecessarySimpa false
set_option maxRecDepth 100000
set_option linter.unusedSimpArgs false
set_option linter.unnecessarySimpa false
set_option maxRecDepth 100000
theorem zSn (a b:Int) (l y:List Int) (hy:y.length≤4096):∀(j k:Nat) (x:List Int),k+j=y.length→x.length=y.length→∃r:List Int,zBN a b l y (k:Int) x=some r∧zC8 a b l y (k:Int) x=some r∧r.length=y.length
 | 0,k,x,e,hx=>⟨x,by rw [zBN,if_neg (by omega)],by rw [zC8,if_neg (by omega)],hx⟩
 | j+1,k,x,e,hx=>by
  obtain ⟨r,h1,h2,h3⟩:=zSn a b l y hy j (k+1) (x.set (Int.toNat (k:Int)) (k:Int)) (by omega) (by simpa using hx)
  exact ⟨r,by rw [zBN,if_pos (by omega),if_pos (by omega),zAJ (by omega),h1],by rw [zC8,if_pos (by omega),if_pos (by omega),zAJ (by omega),h2],h3⟩
theorem zTx (seed:Int) (l:List Int) (hl:l.length≤1000):∀(j:Nat) (x:List Int),j≤4096→j≤x.length→∃r:List Int,zBq (l.foldl zEi seed) ((j:Int)-1) x=some r∧zCb seed l ((j:Int)-1) x=some r∧r.length=x.length
 | 0,x,h4,hx=>⟨x,by rw [zBq,if_neg (by omega)],by rw [zCb,if_neg (by omega)],rfl⟩
 | 1,x,h4,hx=>⟨x,by rw [zBq,if_neg (by omega)],by rw [zCb,if_neg (by omega)],rfl⟩
 | j+2,x,h4,hx=>by
  have hj:(((j+2:Nat):Int)-1)=((j+1:Nat):Int):=by omega
  rw [hj]
  have hw:IntKind.u64.wrap (IntKind.i64.wrap (((j+1:Nat):Int)+1))=((j+2:Nat):Int):=by rw [i64_in _ (by omega),u64_in _ (by omega)];omega
  have hd:=zSD seed (l++[((j+1:Nat):Int)])
  have hfold:zHn (zEi (l.foldl zEi seed) ((j+1:Nat):Int))=zIt seed (l++[((j+1:Nat):Int)]):=by simp [zIt]
  obtain ⟨k,hk,hk2⟩:∃k:Nat,Int.tmod (zIt seed (l++[((j+1:Nat):Int)])) ((j+2:Nat):Int)=(k:Int)∧k<j+2:=by
   have h1:=Int.tmod_nonneg ((j+2:Nat):Int) hd.1
   have h2:=Int.tmod_lt_of_pos (zIt seed (l++[((j+1:Nat):Int)])) (b:=((j+2:Nat):Int)) (by omega)
   exact ⟨(Int.tmod (zIt seed (l++[((j+1:Nat):Int)])) ((j+2:Nat):Int)).toNat,by omega,by omega⟩
  have hwith:zBp (l.foldl zEi seed) ((j+1:Nat):Int)=some (zEi (l.foldl zEi seed) ((j+1:Nat):Int)):=by rw [zBp];rfl
  have hend:zCc (zEi (l.foldl zEi seed) ((j+1:Nat):Int))=some (zIt seed (l++[((j+1:Nat):Int)])):=by rw [←hfold,zCc];rfl
  have hs:IntKind.i64.wrap (((j+1:Nat):Int)-1)=((j+1:Nat):Int)-1:=i64_in _ (by omega)
  obtain ⟨r,h1,h2,h3⟩:=zTx seed l hl (j+1) ((x.set (Int.toNat ((j+1:Nat):Int)) (at' x (k:Int))).set (Int.toNat (k:Int)) (at' x ((j+1:Nat):Int))) (by omega) (by simp;omega)
  refine ⟨r, ?_, ?_,by simpa using h3⟩
  ·rw [zBq,if_pos (by omega),hwith,zAb,hend,zAb,hw,if_pos (by omega),hk,if_pos (by omega),if_pos (by omega),if_pos (by omega),if_pos (by simp;omega),zAb,hs,h1]
  ·rw [zCb,if_pos (by omega),if_pos (zB2 (by omega)),if_pos (zB2 (by simp;omega)),hw,zVj (by simp;omega) (by omega),zAb]
   simp only
   rw [hk,if_pos (by omega),if_pos (by omega),if_pos (by omega),zAb,if_pos (by simp;omega),zAb,hs,h2]
theorem zXp (n:Nat) (seed:Int) (l:List Int) (hn:n≤4096) (hl:l.length≤1000):∃r:List Int,zEZ (n:Int) seed l=some (r,0)∧zGg (n:Int) seed l=some (r,0)∧r.length=n:=by
 obtain ⟨r,h1,h2,h3⟩:=zSn (n:Int) seed l (List.replicate (Int.toNat (n:Int)) 0) (by simp;omega) n 0 (List.replicate (Int.toNat (n:Int)) 0) (by simp) rfl
 have h3':r.length=n:=by simpa using h3
 obtain ⟨q,g1,g2,g3⟩:=zTx seed l hl n r hn (by omega)
 have ho:=zQA l (by omega) l 0 seed rfl
 rw [show ((0:Nat):Int)=0 from rfl] at h1 h2 ho
 refine ⟨q, ?_, ?_,by omega⟩
 ·rw [zEZ,if_neg (by omega),if_neg (by omega),if_pos ⟨by omega,by omega,by omega,by omega⟩,zAb,h1,zAb,zIr,ho,zAb,zAb,i64_in _ (by omega),g1,zAb]
 ·rw [zGg,if_neg (by omega),if_neg (by omega),if_pos ⟨by omega,by omega,by omega,by omega⟩,zAb,h2,zAb,i64_in _ (by omega),g2,zAb]
theorem zXK (c:zAl) (hl:c.F_L.length≤4398046511000) (w s:Int):∃r:List Int×Int,zCN c w s=some r∧zGq c w s=some r∧r.1.length≤256:=by
 rw [zCN,zGq,zYc c hl,zT9 c hl,zAb,zAb]
 simp only [orB,zKz,zAb]
 by_cases h:(0≤s∧s≤1073741824)∧zGY c
 rotate_left
 ·rw [if_pos (by simp [h]),if_pos (by
   by_cases g:zGY c
   ·rw [if_pos g];simp [g] at h;simp;omega
   ·rw [if_neg g];simp)]
  exact ⟨_,rfl,rfl,by simp⟩
 have hN:=h.2.2.2.1.1
 by_cases g:0≤w∧w<c.F_N
 rotate_left
 ·rw [if_pos (by simp only [Bool.or_eq_true,decide_eq_true_eq];right;rw [i64_in _ (by omega)];simp;omega),if_pos (by simp;omega)]
  exact ⟨_,rfl,rfl,by simp⟩
 have hL:=h.2.2.2.2.1
 rw [if_neg (by rw [i64_in _ (by omega)];simp [h];omega),if_neg (by rw [if_pos h.2];simp;omega)]
 obtain ⟨r,h1,h2,h3⟩:=zXp c.F_L.length c.F_Seed [w,s] (by omega) (by simp)
 rw [zEJ,zI9]
 simp only [orB]
 rw [if_neg (by simp;omega),if_neg (by simp;omega),h1,zAb,h2,zAb]
 simp only
 have hcut:cutOk none (some c.F_Batch) r.length:=by unfold cutOk;simp only [Option.getD];omega
 rw [if_neg (by simp),if_pos hcut,zAb]
 refine ⟨_,rfl,rfl, ?_⟩
 simp only [cut']
 have:∀q:List Int,q.length≤r.length→q.length≤256:=fun q hq=>by omega
 apply this
 simp
 omega
end Go.Proofs.YtnmlihfpenjeiaaGreat.Abs
