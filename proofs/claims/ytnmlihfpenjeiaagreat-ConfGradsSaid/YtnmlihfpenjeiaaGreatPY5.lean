/- Plain facts: the samples that a worker sees. Conditions: none. -/
import Derived.Test.YtnmlihfpenjeiaaGreatPY4
namespace Go.Proofs.YtnmlihfpenjeiaaGreat.Abs
open Go Go.RowKit Go.IntWalk
set_option linter.unusedVariables false
set_option linter.unusedSimpArgs false
set_option linter.unnecessarySimpa false
set_option maxRecDepth 100000
set_option linter.unusedSimpArgs false
set_option linter.unnecessarySimpa false
set_option maxRecDepth 100000
theorem zWK (a b:Int) (l y:List Int) (hy:y.length≤4096):∀(j k:Nat) (x:List Int),k+j=y.length→x.length=y.length→∃r:List Int,zB0 a b l y (k:Int) x=some r∧zBY a b l y (k:Int) x=some r∧r.length=y.length
 | 0,k,x,e,hx=>⟨x,by rw [zB0,if_neg (by omega)],by rw [zBY,if_neg (by omega)],hx⟩
 | j+1,k,x,e,hx=>by
  obtain ⟨r,h1,h2,h3⟩:=zWK a b l y hy j (k+1) (x.set (Int.toNat (k:Int)) (k:Int)) (by omega) (by simpa using hx)
  exact ⟨r,by rw [zB0,if_pos (by omega),if_pos (by omega),zAO (by omega),h1],by rw [zBY,if_pos (by omega),if_pos (by omega),zAO (by omega),h2],h3⟩
theorem zWU (seed:Int) (l:List Int) (hl:l.length≤1000):∀(j:Nat) (x:List Int),j≤4096→j≤x.length→∃r:List Int,zBE (l.foldl zEx seed) ((j:Int)-1) x=some r∧zBI seed l ((j:Int)-1) x=some r∧r.length=x.length
 | 0,x,h4,hx=>⟨x,by rw [zBE,if_neg (by omega)],by rw [zBI,if_neg (by omega)],rfl⟩
 | 1,x,h4,hx=>⟨x,by rw [zBE,if_neg (by omega)],by rw [zBI,if_neg (by omega)],rfl⟩
 | j+2,x,h4,hx=>by
  have hj:(((j+2:Nat):Int)-1)=((j+1:Nat):Int):=by omega
  rw [hj]
  have hw:IntKind.u64.wrap (IntKind.i64.wrap (((j+1:Nat):Int)+1))=((j+2:Nat):Int):=by rw [i64_in _ (by omega),u64_in _ (by omega)];omega
  have hd:=zVq seed (l++[((j+1:Nat):Int)])
  have hfold:zIa (zEx (l.foldl zEx seed) ((j+1:Nat):Int))=zJm seed (l++[((j+1:Nat):Int)]):=by simp [zJm]
  obtain ⟨k,hk,hk2⟩:∃k:Nat,Int.tmod (zJm seed (l++[((j+1:Nat):Int)])) ((j+2:Nat):Int)=(k:Int)∧k<j+2:=by
   have h1:=Int.tmod_nonneg ((j+2:Nat):Int) hd.1
   have h2:=Int.tmod_lt_of_pos (zJm seed (l++[((j+1:Nat):Int)])) (b:=((j+2:Nat):Int)) (by omega)
   exact ⟨(Int.tmod (zJm seed (l++[((j+1:Nat):Int)])) ((j+2:Nat):Int)).toNat,by omega,by omega⟩
  have hwith:zBD (l.foldl zEx seed) ((j+1:Nat):Int)=some (zEx (l.foldl zEx seed) ((j+1:Nat):Int)):=by rw [zBD];rfl
  have hend:zCq (zEx (l.foldl zEx seed) ((j+1:Nat):Int))=some (zJm seed (l++[((j+1:Nat):Int)])):=by rw [←hfold,zCq];rfl
  have hs:IntKind.i64.wrap (((j+1:Nat):Int)-1)=((j+1:Nat):Int)-1:=i64_in _ (by omega)
  obtain ⟨r,h1,h2,h3⟩:=zWU seed l hl (j+1) ((x.set (Int.toNat ((j+1:Nat):Int)) (at' x (k:Int))).set (Int.toNat (k:Int)) (at' x ((j+1:Nat):Int))) (by omega) (by simp;omega)
  refine ⟨r, ?_, ?_,by simpa using h3⟩
  ·rw [zBE,if_pos (by omega),hwith,zAb,hend,zAb,hw,if_pos (by omega),hk,if_pos (by omega),if_pos (by omega),if_pos (by omega),if_pos (by simp;omega),zAb,hs,h1]
  ·rw [zBI,if_pos (by omega),if_pos (zB4 (by omega)),if_pos (zB4 (by simp;omega)),hw,zY5 (by simp;omega) (by omega),zAb]
   simp only
   rw [hk,if_pos (by omega),if_pos (by omega),if_pos (by omega),zAb,if_pos (by simp;omega),zAb,hs,h2]
theorem zAbE (n:Nat) (seed:Int) (l:List Int) (hn:n≤4096) (hl:l.length≤1000):∃r:List Int,zFw (n:Int) seed l=some (r,0)∧zE5 (n:Int) seed l=some (r,0)∧r.length=n:=by
 obtain ⟨r,h1,h2,h3⟩:=zWK (n:Int) seed l (List.replicate (Int.toNat (n:Int)) 0) (by simp;omega) n 0 (List.replicate (Int.toNat (n:Int)) 0) (by simp) rfl
 have h3':r.length=n:=by simpa using h3
 obtain ⟨q,g1,g2,g3⟩:=zWU seed l hl n r hn (by omega)
 have ho:=zUp l (by omega) l 0 seed rfl
 rw [show ((0:Nat):Int)=0 from rfl] at h1 h2 ho
 refine ⟨q, ?_, ?_,by omega⟩
 ·rw [zFw,if_neg (by omega),if_neg (by omega),if_pos ⟨by omega,by omega,by omega,by omega⟩,zAb,h1,zAb,zI9,ho,zAb,zAb,i64_in _ (by omega),g1,zAb]
 ·rw [zE5,if_neg (by omega),if_neg (by omega),if_pos ⟨by omega,by omega,by omega,by omega⟩,zAb,h2,zAb,i64_in _ (by omega),g2,zAb]
theorem zAaY (c:zAq) (hl:c.F_L.length≤4398046511000) (w s:Int):∃r:List Int×Int,zD5 c w s=some r∧zEX c w s=some r∧r.1.length≤256:=by
 rw [zD5,zEX,zAbJ c hl,zXr c hl,zAb,zAb]
 simp only [orB,zLm,zAb]
 by_cases h:(0≤s∧s≤1073741824)∧zHQ c
 rotate_left
 ·rw [if_pos (by simp [h]),if_pos (by
   by_cases g:zHQ c
   ·rw [if_pos g];simp [g] at h;simp;omega
   ·rw [if_neg g];simp)]
  exact ⟨_,rfl,rfl,by simp⟩
 have hN:=h.2.2.2.1.1
 by_cases g:0≤w∧w<c.F_N
 rotate_left
 ·rw [if_pos (by simp only [Bool.or_eq_true,decide_eq_true_eq];right;rw [i64_in _ (by omega)];simp;omega),if_pos (by simp;omega)]
  exact ⟨_,rfl,rfl,by simp⟩
 have hL:=h.2.2.2.2.1
 rw [if_neg (by rw [i64_in _ (by omega)];simp [h];omega),if_neg (by rw [if_pos h.2];simp;omega)]
 obtain ⟨r,h1,h2,h3⟩:=zAbE c.F_L.length c.F_Seed [w,s] (by omega) (by simp)
 rw [zFb,zHw]
 simp only [orB]
 rw [if_neg (by simp;omega),if_neg (by simp;omega),h1,zAb,h2,zAb]
 simp only
 have hcut:cutOk none (some c.F_Batch) r.length:=by unfold cutOk;simp only [Option.getD];omega
 rw [if_neg (by simp),if_pos hcut,zAb]
 refine ⟨_,rfl,rfl, ?_⟩
 simp only [cut']
 have:∀q:List Int,q.length≤r.length→q.length≤256:=fun q hq=>by omega
 apply this
 simp
 omega
end Go.Proofs.YtnmlihfpenjeiaaGreat.Abs
