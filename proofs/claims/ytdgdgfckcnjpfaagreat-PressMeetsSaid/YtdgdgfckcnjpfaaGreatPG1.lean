/- Plain facts: frames, part 1. Conditions: none. -/
import Derived.Test.YtdgdgfckcnjpfaaGreatPK3
import Derived.Test.YtdgdgfckcnjpfaaGreatPL5
namespace Go.Proofs.YtdgdgfckcnjpfaaGreat.Abs
open Go Go.RowKit Go.IntWalk Crc
set_option linter.unusedVariables false
set_option linter.unusedSimpArgs false
set_option linter.unusedSectionVars false
set_option linter.unnecessarySimpa false
set_option maxRecDepth 100000
set_option linter.unnecessarySimpa false
set_option maxRecDepth 100000
def wid (n:Nat):Nat:=if n=0 then 0 else n.log2+1
theorem zPA {n k:Nat} (h:2 ^ k≤n):wid n=wid (n/2 ^ k)+k:=by
 have hp:0<2 ^ k:=Nat.two_pow_pos k
 have h1:1≤n/2 ^ k:=(Nat.le_div_iff_mul_le hp).2 (by omega)
 unfold wid
 rw [if_neg (by omega),if_neg (by omega)]
 have hl:n.log2=(n/2 ^ k).log2+k:=by
  rw [Nat.log2_eq_iff (by omega)]
  have a1:2 ^ (n/2 ^ k).log2≤n/2 ^ k:=Nat.log2_self_le (by omega)
  have a2:n/2 ^ k<2 ^ ((n/2 ^ k).log2+1):=Nat.lt_log2_self
  constructor
  ·rw [Nat.pow_add]
   exact Nat.le_trans (Nat.mul_le_mul_right _ a1) (Nat.div_mul_le_self n (2 ^ k))
  ·rw [show (n/2 ^ k).log2+k+1=((n/2 ^ k).log2+1)+k by omega,Nat.pow_add]
   exact (Nat.div_lt_iff_lt_mul hp).1 a2
 omega
def len8:ByteArray:=ByteArray.mk #[0,1,2,2,3,3,3,3,4,4,4,4,4,4,4,4,5,5,5,5,5,5,5,5,5,5,5,5,5,5,5,5,6,6,6,6,6,6,6,6,6,6,6,6,6,6,6,6,6,6,6,6,6,6,6,6,6,6,6,6,6,6,6,6,7,7,7,7,7,7,7,7,7,7,7,7,7,7,7,7,7,7,7,7,7,7,7,7,7,7,7,7,7,7,7,7,7,7,7,7,7,7,7,7,7,7,7,7,7,7,7,7,7,7,7,7,7,7,7,7,7,7,7,7,7,7,7,7,8,8,8,8,8,8,8,8,8,8,8,8,8,8,8,8,8,8,8,8,8,8,8,8,8,8,8,8,8,8,8,8,8,8,8,8,8,8,8,8,8,8,8,8,8,8,8,8,8,8,8,8,8,8,8,8,8,8,8,8,8,8,8,8,8,8,8,8,8,8,8,8,8,8,8,8,8,8,8,8,8,8,8,8,8,8,8,8,8,8,8,8,8,8,8,8,8,8,8,8,8,8,8,8,8,8,8,8,8,8,8,8,8,8,8,8,8,8,8,8,8,8,8,8,8,8,8,8]
theorem zYb:∀i:Fin 256,(len8.data.getD i.val 0).toNat=wid i.val:=by decide+kernel
theorem zZJ:len8.size=256:=by decide+kernel
theorem shrU (m k:Nat) (hk:k≤64):sShr .u64 (m:Int) (k:Int)=((m/2 ^ k:Nat):Int):=by
 simp only [sShr]
 have h2:(2:Int) ^ (min (k:Int).toNat IntKind.u64.bits)=((2 ^ k:Nat):Int):=by
  have:IntKind.u64.bits=64:=by decide
  rw [this,show min (k:Int).toNat 64=k by omega];simp
 rw [h2,Int.fdiv_eq_ediv_of_nonneg _ (Int.natCast_nonneg _)];rfl
theorem zV1 {n:Nat} (h:n<18446744073709551616):zDO (n:Int)=some ((wid n:Nat):Int):=by
 obtain ⟨k1,m1,e1,h1,w1,b1⟩:∃k1 m1:Nat,((if (n:Int)≥4294967296 then some (32,sShr .u64 (n:Int) 32) else some (0,(n:Int))):Option (Int×Int))=some ((k1:Int),(m1:Int))∧m1<4294967296∧wid n=wid m1+k1∧k1≤32:=by
  by_cases hn:4294967296≤n
  ·refine ⟨32,n/2 ^ 32, ?_,by omega,zPA (by omega),by omega⟩
   rw [if_pos (by omega)]
   have:=shrU n 32 (by omega)
   rw [←this];rfl
  ·exact ⟨0,n,by rw [if_neg (by omega)];rfl,by omega,rfl,by omega⟩
 obtain ⟨k2,m2,e2,h2,w2,b2⟩:∃k2 m2:Nat,((if (m1:Int)≥65536 then some (IntKind.i64.wrap ((k1:Int)+16),sShr .u64 (m1:Int) 16) else some ((k1:Int),(m1:Int))):Option (Int×Int))=some ((k2:Int),(m2:Int))∧m2<65536∧wid n=wid m2+k2∧k2≤48:=by
  by_cases hn:65536≤m1
  ·refine ⟨k1+16,m1/2 ^ 16, ?_,by omega,by rw [w1,zPA (k:=16) (n:=m1) (by omega)];omega,by omega⟩
   rw [if_pos (by omega)]
   have:=shrU m1 16 (by omega)
   rw [i64_in _ (by omega),←this];rfl
  ·exact ⟨k1,m1,by rw [if_neg (by omega)],by omega,w1,by omega⟩
 have hw8:∀i:Nat,i<256→wid i≤8:=by
  have:∀i:Fin 256,wid i.val≤8:=by decide+kernel
  exact fun i hi=>this ⟨i,hi⟩
 rw [zDO,e1,zAb,e2,zAb,show (ByteArray.mk #[0,1,2,2,3,3,3,3,4,4,4,4,4,4,4,4,5,5,5,5,5,5,5,5,5,5,5,5,5,5,5,5,6,6,6,6,6,6,6,6,6,6,6,6,6,6,6,6,6,6,6,6,6,6,6,6,6,6,6,6,6,6,6,6,7,7,7,7,7,7,7,7,7,7,7,7,7,7,7,7,7,7,7,7,7,7,7,7,7,7,7,7,7,7,7,7,7,7,7,7,7,7,7,7,7,7,7,7,7,7,7,7,7,7,7,7,7,7,7,7,7,7,7,7,7,7,7,7,8,8,8,8,8,8,8,8,8,8,8,8,8,8,8,8,8,8,8,8,8,8,8,8,8,8,8,8,8,8,8,8,8,8,8,8,8,8,8,8,8,8,8,8,8,8,8,8,8,8,8,8,8,8,8,8,8,8,8,8,8,8,8,8,8,8,8,8,8,8,8,8,8,8,8,8,8,8,8,8,8,8,8,8,8,8,8,8,8,8,8,8,8,8,8,8,8,8,8,8,8,8,8,8,8,8,8,8,8,8,8,8,8,8,8,8,8,8,8,8,8,8,8,8,8,8,8,8]:ByteArray)=len8 from rfl,zZJ]
 simp only
 by_cases hn:256≤m2
 ·have e3:IntKind.u8.wrap (sShr .u64 (m2:Int) 8)=((m2/256:Nat):Int):=by
   have:=shrU m2 8 (by omega)
   rw [show (8:Int)=((8:Nat):Int) from rfl,this,u8_in _ (by omega)]
  rw [if_pos (by omega),e3,if_pos (by omega),Int.toNat_natCast]
  have e4:=zYb ⟨m2/256,by omega⟩
  simp only at e4
  rw [e4]
  have:=hw8 (m2/256) (by omega)
  rw [i64_in (((wid (m2/256):Nat):Int)) (by omega),i64_in ((k2:Int)+8) (by omega),i64_in _ (by omega),w2,zPA (k:=8) (n:=m2) (by omega)]
  simp only [Nat.reducePow]
  congr 1;omega
 ·have e3:IntKind.u8.wrap (m2:Int)=(m2:Int):=u8_in _ (by omega)
  rw [if_neg (by omega),e3,if_pos (by omega),Int.toNat_natCast]
  have e4:=zYb ⟨m2,by omega⟩
  simp only at e4
  rw [e4]
  have:=hw8 m2 (by omega)
  rw [i64_in (((wid m2:Nat):Int)) (by omega),i64_in _ (by omega),w2]
  congr 1;omega
theorem zAbw {n:Int} (h:0≤n∧n≤18446744073709551615):zHn n=some ((wid n.toNat:Nat):Int):=by
 have:=zV1 (n:=n.toNat) (by omega)
 rw [Int.toNat_of_nonneg h.1] at this
 rw [zHn,this];rfl
theorem zXH (l : List Int) (hl : l.length ≤ 4611686018427387904) (hu : ∀ n ∈ l, 0 ≤ n ∧ n ≤ 18446744073709551615) (a1 a2 : Int) (a3 a4 : List Int) (a5 a6 : Int) (a7 : List Int) (a8 : List Bool) : ∀ (t : List Int) (k : Nat), l.drop k = t →
    ∃ e, zAp l a1 a2 a3 a4 a5 a6 a7 a8 (k : Int) = some e ∧ (if t.all (fun n => decide ((wid n.toNat : Int) ≤ a6)) then e = .inr () else ∃ j : Nat, e = .inl (j : Int))
  | [], k, h1 => by rw [zAp, if_neg (zAI h1)]; exact ⟨_, rfl, by simp⟩
  | x :: t, k, h1 => by
    have g1 := zAm h1
    have hx : x ∈ l := by have : x ∈ l.drop k := by rw [h1]; simp
                          exact List.mem_of_mem_drop this
    rw [zAp, if_pos g1.1, if_pos (by omega), g1.2.1, zHx, zAbw (hu x hx), zAb, zAb]
    by_cases hw : (wid x.toNat : Int) ≤ a6
    · rw [if_neg (by simp; omega), zA6 (by omega)]
      obtain ⟨e, h2, h3⟩ := zXH l hl hu a1 a2 a3 a4 a5 a6 a7 a8 t (k + 1) g1.2.2
      exact ⟨e, h2, by simpa [hw] using h3⟩
    · rw [if_pos (by simp; omega)]
      exact ⟨_, rfl, by rw [if_neg (by simp [hw])]; exact ⟨k, rfl⟩⟩
theorem zAcT (l:List Int) (hl:l.length≤4611686018427387904) (hu:∀n∈l,0≤n∧n≤18446744073709551615) (a1 a2:Int) (a3 a4:List Int) (a5 a6:Int) (a7:List Int) (a8:List Bool):
  zAY l a1 a2 a3 a4 a5 a6 a7 a8=some (!(l.all fun n=>decide ((wid n.toNat:Int)≤a6))):=by
 obtain ⟨e,h2,h3⟩:=zXH l hl hu a1 a2 a3 a4 a5 a6 a7 a8 l 0 rfl
 rw [zAY,zBE,show (0:Int)=((0:Nat):Int) from rfl,h2,zAb]
 split at h3
 ·rename_i hc;subst h3;simp only [zAb];rw [hc];rfl
 ·rename_i hc;obtain ⟨j,rfl⟩:=h3;simp only [zAb]
  rw [Bool.not_eq_true] at hc;rw [hc];simp
theorem zOC (a b:List Int) (hl:a.length=b.length) (hb:a.length≤4611686018427387904):∀(t u:List Int) (k:Nat),a.drop k=t→b.drop k=u→zBa a b (k:Int)=some (if t=u then .inr () else .inl false)
 | [],u,k,h1,h2=>by
  have:=List.drop_eq_nil_iff.1 h1
  have h3:u=[]:=by rw [←h2];exact List.drop_eq_nil_of_le (by omega)
  rw [zBa,if_neg (zAI h1),h3];rfl
 | x::t,[],k,h1,h2=>by
  have:=List.drop_eq_nil_iff.1 h2
  have:=(zAm h1).1
  omega
 | x::t,y::u,k,h1,h2=>by
  have g1:=zAm h1
  have g2:=zAm h2
  rw [zBa,if_pos g1.1,if_pos (by omega),if_pos (by omega),g1.2.1,g2.2.1,zA6 (by omega),zOC a b hl hb t u (k+1) g1.2.2 g2.2.2]
  by_cases hxy:x=y
  ·subst hxy;simp
  ·simp [hxy]
theorem zYN (a b:List Int) (hb:a.length≤4611686018427387904):zBJ a b=some (decide (a=b)):=by
 rw [zBJ]
 by_cases hl:a.length=b.length
 ·rw [if_neg (by omega),show (0:Int)=((0:Nat):Int) from rfl,zOC a b hl hb a b 0 rfl rfl]
  by_cases h:a=b
  ·simp [h]
  ·simp [h]
 ·rw [if_pos (by omega)]
  have:a≠b:=fun e=>hl (by rw [e])
  simp [this]
theorem zKN (a b:List Int) (hl:a.length=b.length) (hb:a.length≤4611686018427387904):∀(t u:List Int) (k:Nat),a.drop k=t→b.drop k=u→zAL a b (k:Int)=some (if t=u then .inr () else .inl false)
 | [],u,k,h1,h2=>by
  have:=List.drop_eq_nil_iff.1 h1
  have h3:u=[]:=by rw [←h2];exact List.drop_eq_nil_of_le (by omega)
  rw [zAL,if_neg (zAI h1),h3];rfl
 | x::t,[],k,h1,h2=>by
  have:=List.drop_eq_nil_iff.1 h2
  have:=(zAm h1).1
  omega
 | x::t,y::u,k,h1,h2=>by
  have g1:=zAm h1
  have g2:=zAm h2
  rw [zAL,if_pos g1.1,if_pos (by omega),if_pos (by omega),g1.2.1,g2.2.1,zA6 (by omega),zKN a b hl hb t u (k+1) g1.2.2 g2.2.2]
  by_cases hxy:x=y
  ·subst hxy;simp
  ·simp [hxy]
theorem zTG (a b:List Int) (hb:a.length≤4611686018427387904):zAO a b=some (decide (a=b)):=by
 rw [zAO]
 by_cases hl:a.length=b.length
 ·rw [if_neg (by omega),show (0:Int)=((0:Nat):Int) from rfl,zKN a b hl hb a b 0 rfl rfl]
  by_cases h:a=b
  ·simp [h]
  ·simp [h]
 ·rw [if_pos (by omega)]
  have:a≠b:=fun e=>hl (by rw [e])
  simp [this]
theorem zID (a b:List Int) (hl:a.length=b.length) (hb:a.length≤4611686018427387904):∀(t u:List Int) (k:Nat),a.drop k=t→b.drop k=u→zAU a b (k:Int)=some (if t=u then .inr () else .inl false)
 | [],u,k,h1,h2=>by
  have:=List.drop_eq_nil_iff.1 h1
  have h3:u=[]:=by rw [←h2];exact List.drop_eq_nil_of_le (by omega)
  rw [zAU,if_neg (zAI h1),h3];rfl
 | x::t,[],k,h1,h2=>by
  have:=List.drop_eq_nil_iff.1 h2
  have:=(zAm h1).1
  omega
 | x::t,y::u,k,h1,h2=>by
  have g1:=zAm h1
  have g2:=zAm h2
  rw [zAU,if_pos g1.1,if_pos (by omega),if_pos (by omega),g1.2.1,g2.2.1,zA6 (by omega),zID a b hl hb t u (k+1) g1.2.2 g2.2.2]
  by_cases hxy:x=y
  ·subst hxy;simp
  ·simp [hxy]
theorem zQ4 (a b:List Int) (hb:a.length≤4611686018427387904):zCn a b=some (decide (a=b)):=by
 rw [zCn]
 by_cases hl:a.length=b.length
 ·rw [if_neg (by omega),show (0:Int)=((0:Nat):Int) from rfl,zID a b hl hb a b 0 rfl rfl]
  by_cases h:a=b
  ·simp [h]
  ·simp [h]
 ·rw [if_pos (by omega)]
  have:a≠b:=fun e=>hl (by rw [e])
  simp [this]
theorem zMp (a b:List Bool) (hl:a.length=b.length) (hb:a.length≤4611686018427387904):∀(t u:List Bool) (k:Nat),a.drop k=t→b.drop k=u→zBp a b (k:Int)=some (if t=u then .inr () else .inl false)
 | [],u,k,h1,h2=>by
  have:=List.drop_eq_nil_iff.1 h1
  have h3:u=[]:=by rw [←h2];exact List.drop_eq_nil_of_le (by omega)
  rw [zBp,if_neg (zAI h1),h3];rfl
 | x::t,[],k,h1,h2=>by
  have:=List.drop_eq_nil_iff.1 h2
  have:=(zAm h1).1
  omega
 | x::t,y::u,k,h1,h2=>by
  have g1:=zAm h1
  have g2:=zAm h2
  rw [zBp,if_pos g1.1,if_pos (by omega),if_pos (by omega),g1.2.1,g2.2.1,zA6 (by omega),zMp a b hl hb t u (k+1) g1.2.2 g2.2.2]
  by_cases hxy:x=y
  ·subst hxy;simp
  ·simp [hxy]
theorem zPG (a b:List Bool) (hb:a.length≤4611686018427387904):zCe a b=some (decide (a=b)):=by
 rw [zCe]
 by_cases hl:a.length=b.length
 ·rw [if_neg (by omega),show (0:Int)=((0:Nat):Int) from rfl,zMp a b hl hb a b 0 rfl rfl]
  by_cases h:a=b
  ·simp [h]
  ·simp [h]
 ·rw [if_pos (by omega)]
  have:a≠b:=fun e=>hl (by rw [e])
  simp [this]
def zB7:zAc:=⟨0,0,[],[],0,0,[],[]⟩
structure FitS (s:zAc):Prop where
 L:s.F_L.length≤4611686018427387904
 V:s.F_V.length≤4611686018427387904
 Lev:s.F_Lev.length≤4611686018427387904
 Neg:s.F_Neg.length≤4611686018427387904
 u:∀n∈s.F_Lev,0≤n∧n≤18446744073709551615
theorem zYq {s t:zAc} (h:FitS s):zFu s t=some (decide (s=t)):=by
 obtain ⟨s1,s2,s3,s4,s5,s6,s7,s8⟩:=s
 obtain ⟨t1,t2,t3,t4,t5,t6,t7,t8⟩:=t
 obtain ⟨h1,h2,h3,h4,_⟩:=h
 simp only at h1 h2 h3 h4
 rw [zFu]
 simp only [zYN _ _ h1,zTG _ _ h2,zQ4 _ _ h3,zPG _ _ h4,zAb,andB]
 congr 1
 rw [Bool.eq_iff_iff]
 simp only [Bool.and_eq_true,decide_eq_true_eq,zAc.mk.injEq,List.cons.injEq,and_true]
 constructor
 ·rintro ⟨⟨⟨⟨⟨a,b,c,d⟩,e⟩,f⟩,g⟩,i⟩;exact ⟨a,b,e,f,c,d,g,i⟩
 ·rintro ⟨a,b,e,f,c,d,g,i⟩;exact ⟨⟨⟨⟨⟨a,b,c,d⟩,e⟩,f⟩,g⟩,i⟩
def zGY (s:zAc):Bool:=decide (s.F_Dim>0)&&decide (s.F_Dim≤4096)
def zC4 (s:zAc):zAc×Bool:=
 if s.F_Scheme=0 then (⟨0,0,s.F_L,[],s.F_Scale,s.F_Wide,s.F_Lev,s.F_Neg⟩,zGY s&&decide ((s.F_V.length:Int)=s.F_Dim))
 else if s.F_Scheme=1 then (⟨0,0,[],[],s.F_Scale,s.F_Wide,s.F_Lev,s.F_Neg⟩,zGY s&&decide (zC6 s.F_Dim s.F_L=0)&&decide ((s.F_L.length:Int)=(s.F_V.length:Int)))
 else if s.F_Scheme=2 then (⟨0,0,s.F_L,s.F_V,0,0,[],[]⟩,zGY s&&decide (s.F_Wide>0)&&decide (s.F_Wide≤8)&&decide ((s.F_Lev.length:Int)=s.F_Dim)&&(s.F_Lev.all fun n=>decide ((wid n.toNat:Int)≤s.F_Wide))&&decide (s.F_Scale≥0)&&decide ((s.F_Neg.length:Int)=s.F_Dim))
 else if s.F_Scheme=3 then (⟨0,0,s.F_L,s.F_V,0,s.F_Wide,s.F_Lev,[]⟩,zGY s&&decide (s.F_Scale≥0)&&decide ((s.F_Neg.length:Int)=s.F_Dim))
 else (⟨0,0,s.F_L,s.F_V,s.F_Scale,s.F_Wide,s.F_Lev,s.F_Neg⟩,false)
theorem beqI {x y:Int}:(x==y)=decide (x=y):=by by_cases h:x=y<;>simp [h]
theorem zAcX {s:zAc} (h:FitS s):zHY s=some ((zC4 s).1.F_Scheme,(zC4 s).1.F_Dim,(zC4 s).1.F_L,(zC4 s).1.F_V,(zC4 s).1.F_Scale,(zC4 s).1.F_Wide,(zC4 s).1.F_Lev,(zC4 s).1.F_Neg,(zC4 s).2):=by
 obtain ⟨h1,h2,h3,h4,h5⟩:=h
 rw [zHY]
 simp only [andB,zRc _ _ h1,zAcT _ h3 h5,zAb,beqI,Bool.not_not,Bool.decide_eq_true]
 unfold zC4 zGY
 repeat' split
 all_goals rfl
def mayP (s:zAc):Bool:=(zC4 s).2&&decide ((zC4 s).1=zB7)
theorem FitS.bare {s:zAc} (h:FitS s):FitS (zC4 s).1:=by
 obtain ⟨h1,h2,h3,h4,h5⟩:=h
 unfold zC4
 repeat' split
 all_goals exact ⟨by simp<;>omega,by simp<;>omega,by simp<;>omega,by simp<;>omega,by simpa using h5⟩
theorem zJX {s:zAc} (h:FitS s):zCz s=some (mayP s):=by
 rw [zCz,zAcX h,zAb]
 simp only
 rw [zYq h.bare,zAb,andB]
 simp only [Bool.decide_eq_true];rfl
def zFf (f:zAE):Prop:=(0≤f.F_From∧f.F_From<64∧0≤f.F_Step∧f.F_Step≤1073741824)∧(f.F_Kind=1∧mayP f.F_S=true∨f.F_Kind=2∧f.F_S=zB7)
instance (f:zAE):Decidable (zFf f):=by unfold zFf;infer_instance
theorem zUk {f:zAE} (h:FitS f.F_S):zDL f=some (if zFf f then 0 else 1):=by
 rw [zDL]
 simp only [andB,zJX h,zYq h,zAb,Bool.decide_eq_true]
 unfold zFf zB7
 by_cases a:0≤f.F_From<;>by_cases b:f.F_From<64<;>by_cases c:0≤f.F_Step<;>by_cases d:f.F_Step≤1073741824<;>simp [a,b,c,d]
 by_cases k1:f.F_Kind=1
 ·simp only [k1,true_and,if_pos,Int.reduceEq,false_and,or_false];split<;>rfl
 ·by_cases k2:f.F_Kind=2
  ·simp only [k2,Int.reduceEq,false_and,false_or,true_and,if_true,if_false];split<;>rfl
  ·simp [k1,k2]
end Go.Proofs.YtdgdgfckcnjpfaaGreat.Abs
