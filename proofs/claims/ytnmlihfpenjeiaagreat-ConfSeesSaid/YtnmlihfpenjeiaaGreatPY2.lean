/- Plain facts: which runs may be (conf.Check). Conditions: none. -/
import Derived.Test.YtnmlihfpenjeiaaGreatPY1
import Derived.Test.YtnmlihfpenjeiaaGreatPY0
namespace Go.Proofs.YtnmlihfpenjeiaaGreat.Abs
open Go Go.RowKit Go.IntWalk
set_option linter.unusedVariables false
set_option linter.unusedSimpArgs false
set_option linter.unnecessarySimpa false
set_option maxRecDepth 100000
set_option linter.unusedSimpArgs false
set_option linter.unnecessarySimpa false
set_option maxRecDepth 100000
theorem zKz (a b c:Int):zBc a b c=some (decide (b≤a∧a≤c)):=by
 rw [zBc,andB];congr 1;simp
theorem zTI (a b c:Int):zDF a b c=some (decide (b≤a∧a≤c)):=by
 rw [zDF,andB];congr 1;simp
abbrev oneF (m:zAc):Int:=sShl .i64 1 m.F_Frac
theorem zZh {m:zAc} (h:zCV m):1≤oneF m∧oneF m≤1073741824:=by
 obtain ⟨_,⟨h1,h2⟩,_⟩:=h
 unfold oneF
 obtain ⟨k,hk⟩:∃k:Nat,m.F_Frac=(k:Int):=⟨m.F_Frac.toNat,by omega⟩
 rw [hk,sShl]
 have hk2:k≤30:=by omega
 have hp:2 ^ k≤2 ^ 30:=Nat.pow_le_pow_right (by omega) hk2
 have hq:0<2 ^ k:=Nat.two_pow_pos k
 rw [show min ((k:Int)).toNat IntKind.i64.bits=k by simp [IntKind.bits];omega,Int.one_mul,show ((2:Int) ^ k)=((2 ^ k:Nat):Int) by simp]
 rw [i64_in _ (by omega)]
 omega
def zGY (c:zAl):Prop:=zCV c.F_M∧zFq c.F_H (dimN c.F_M)∧((1≤c.F_N∧c.F_N≤64)∧(0≤c.F_Warm∧c.F_Warm≤1048576)∧(0≤c.F_Rate∧c.F_Rate≤oneF c.F_M)∧(0≤c.F_Mom∧c.F_Mom≤oneF c.F_M)∧0≤c.F_Clip)∧(c.F_L.length≤256∧1≤c.F_Batch∧c.F_Batch≤64∧c.F_Batch≤(c.F_L.length:Int))∧(∀s∈c.F_L,goes c.F_M s=true)
instance (c:zAl):Decidable (zGY c):=by unfold zGY;infer_instance
theorem zSO {m:zAc} (hm:zCV m) (w:List Int) (hw:(w.length:Int)=dimN m) (l:List zAa) (hl:l.length≤4398046511000) (a1 a7 a8 a9 a10 a11 a12 a13 a14 a15:Int) (a16:List zAa):
  ∀(t:List zAa) (k:Nat),l.drop k=t→∃r,zAp l a1 m.F_Kind m.F_In m.F_Out m.F_Hid m.F_Frac a7 a8 a9 a10 a11 a12 a13 a14 a15 a16 w (k:Int)=some r∧(t.all (goes m)=true∧r= .inr ()∨t.all (goes m)=false∧∃j:Nat,r= .inl (j:Int))
 | [],k,h=>⟨_,by rw [zAp,if_neg (zAP h)], .inl ⟨rfl,rfl⟩⟩
 | x::t,k,h=>by
  obtain ⟨g1,g2,g3⟩:=zAw h
  obtain ⟨e,f1,f2⟩:=zYO hm hw x
  rw [zAp,if_pos g1,if_pos ⟨by omega,g1⟩,g2,zF6,f1,zAb,zAb]
  by_cases he:e=0
  ·obtain ⟨r,h1,h2⟩:=zSO hm w hw l hl a1 a7 a8 a9 a10 a11 a12 a13 a14 a15 a16 t (k+1) g3
   rw [if_neg (by simp [he]),zAJ (by omega),h1]
   refine ⟨r,rfl, ?_⟩
   rw [List.all_cons,f2.1 he,Bool.true_and];exact h2
  ·rw [if_pos (by simpa using he)]
   refine ⟨_,rfl, .inr ⟨?_,k,rfl⟩⟩
   have:goes m x=false:=by cases hg:goes m x with
    | true=>exact absurd (f2.2 hg) he
    | false=>rfl
   rw [List.all_cons,this];rfl
theorem zXJ {m:zAc} (hm:zCV m) (w:List Int) (hw:(w.length:Int)=dimN m) (l:List zAa) (hl:l.length≤4398046511000) (a1 a7 a8 a9 a10 a11 a12 a13 a14 a15:Int) (a16:List zAa):
  zAH l a1 m.F_Kind m.F_In m.F_Out m.F_Hid m.F_Frac a7 a8 a9 a10 a11 a12 a13 a14 a15 a16 w=some (!(l.all (goes m))):=by
 obtain ⟨r,h1,h2⟩:=zSO hm w hw l hl a1 a7 a8 a9 a10 a11 a12 a13 a14 a15 a16 l 0 rfl
 rw [show ((0:Nat):Int)=0 from rfl] at h1
 rw [zAH,zA0,h1,zAb]
 rcases h2 with ⟨h2,rfl⟩ | ⟨h2,j,rfl⟩
 ·simp [zAb,h2]
 ·simp [zAb,h2]
theorem zL2 (c:zAl) (hl:c.F_L.length≤4398046511000):zE1 c=some (if zGY c then 0 else 1):=by
 rw [zE1,zUN,zAb]
 by_cases hm:zCV c.F_M
 rotate_left
 ·rw [if_neg hm,if_pos (by simp),zAb,if_pos rfl,if_neg (fun h=>hm h.1)]
 rw [if_pos hm,if_neg (by simp)]
 simp only
 rw [zVV,zAb,zAb]
 by_cases hh:zFq c.F_H (dimN c.F_M)
 rotate_left
 ·rw [if_neg hh,if_pos (by simp),if_neg (fun h=>hh h.2.1)]
 rw [if_pos hh,if_neg (by simp),if_pos hm.2.1.1]
 simp only [zKz,zTI,zAb,orB]
 by_cases hA:(1≤c.F_N∧c.F_N≤64)∧(0≤c.F_Warm∧c.F_Warm≤1048576)∧(0≤c.F_Rate∧c.F_Rate≤oneF c.F_M)∧(0≤c.F_Mom∧c.F_Mom≤oneF c.F_M)∧0≤c.F_Clip
 rotate_left
 ·rw [if_pos (by simp only [Bool.or_eq_true,Bool.not_eq_true',decide_eq_false_iff_not,decide_eq_true_eq];unfold oneF at hA;omega),if_neg (fun h=>hA h.2.2.1)]
 rw [if_neg (by simp only [Bool.or_eq_true,Bool.not_eq_true',decide_eq_false_iff_not,decide_eq_true_eq];unfold oneF at hA;omega)]
 by_cases hB:c.F_L.length≤256∧1≤c.F_Batch∧c.F_Batch≤64∧c.F_Batch≤(c.F_L.length:Int)
 rotate_left
 ·rw [if_pos (by simp only [Bool.or_eq_true,Bool.not_eq_true',decide_eq_false_iff_not,decide_eq_true_eq];split<;>omega),if_neg (fun h=>hB h.2.2.2.1)]
 have hd:=zNc hm
 rw [if_neg (by simp only [Bool.or_eq_true,Bool.not_eq_true',decide_eq_false_iff_not,decide_eq_true_eq];split<;>omega),if_pos ⟨by omega,by omega,by omega,by omega⟩,zXJ hm _ (by simp;omega) _ hl,zAb]
 by_cases hg:∀s∈c.F_L,goes c.F_M s=true
 ·rw [if_neg (by rw [List.all_eq_true.2 hg];simp),if_pos ⟨hm,hh,hA,hB,hg⟩]
 ·rw [if_pos (by cases h:c.F_L.all (goes c.F_M) with
   | true=>exact absurd (List.all_eq_true.1 h) hg
   | false=>rfl),if_neg (fun h=>hg h.2.2.2.2)]
theorem zTc (c:zAl) (hl:c.F_L.length≤4398046511000):∀(t:List zAa) (k:Nat),c.F_L.drop k=t→∃r,zB4 c (k:Int)=some r∧(r= .inl false∨r= .inr ())
 | [],k,h=>⟨_,by rw [zB4,if_neg (zAP h)], .inr rfl⟩
 | x::t,k,h=>by
  obtain ⟨g1,g2,g3⟩:=zAw h
  rw [zB4,if_pos g1,if_pos ⟨by omega,g1⟩]
  split
  ·exact ⟨_,rfl, .inl rfl⟩
  ·rw [zAJ (by omega)];exact zTc c hl t (k+1) g3
theorem zXx (c:zAl) (hl:c.F_L.length≤4398046511000):∃b,zFn c=some b∧(b=true→c.F_L.length≤300):=by
 obtain ⟨r,h1,h2⟩:=zTc c hl c.F_L 0 rfl
 rw [show ((0:Nat):Int)=0 from rfl] at h1
 rw [zFn,h1,zAb]
 rcases h2 with rfl | rfl
 ·exact ⟨false,rfl,by simp⟩
 ·exact ⟨_,rfl,by simp;omega⟩
theorem zV2:zEQ=some true:=by
 have k0:zDN 10 2 4 0=some (10,0):=by kernel_rfl
 have k1:zDN 10 2 4 1=some (8,0):=by kernel_rfl
 have k2:zDN 10 2 4 2=some (6,0):=by kernel_rfl
 have k3:zDN 10 2 4 3=some (4,0):=by kernel_rfl
 have k4:zDN 10 2 4 4=some (2,0):=by kernel_rfl
 have k5:zDN 10 2 4 5=some (2,0):=by kernel_rfl
 have w:∀a:Int,0≤a∧a≤10→IntKind.i64.wrap (a+1)=a+1:=fun a h=>i64_in _ (by omega)
 have step:∀(a v:Int),0≤a∧a<6→zDN 10 2 4 a=some (v,0)→v=at' [10,8,6,4,2,2] a→zBm a=zBm (a+1):=by
  intro a v h1 h2 h3
  rw [zBm,if_pos (by simp;omega),if_pos (by simp;omega),h2,zAb,orB]
  simp only
  rw [if_neg (by simp [h3]),w a (by omega)]
 have hl:zBm 0=some (.inr ()):=by
  rw [step 0 10 (by omega) k0 rfl,show (0:Int)+1=1 from rfl,step 1 8 (by omega) k1 rfl,show (1:Int)+1=2 from rfl,step 2 6 (by omega) k2 rfl,show (2:Int)+1=3 from rfl,step 3 4 (by omega) k3 rfl,show (3:Int)+1=4 from rfl,step 4 2 (by omega) k4 rfl,show (4:Int)+1=5 from rfl,step 5 2 (by omega) k5 rfl,show (5:Int)+1=6 from rfl,zBm,if_neg (by simp)]
 rw [zEQ,hl,zAb]
 simp only
 rw [zL2 _ (by simp),if_pos (by decide),zAb,if_pos rfl,zL2 _ (by simp),if_neg (by decide),zAb,zAb];rfl
end Go.Proofs.YtnmlihfpenjeiaaGreat.Abs
