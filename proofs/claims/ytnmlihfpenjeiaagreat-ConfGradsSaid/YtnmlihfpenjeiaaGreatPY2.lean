/- Plain facts: which runs may be (conf.Check). Conditions: none. -/
import Derived.Test.YtnmlihfpenjeiaaGreatPY1
import Derived.Test.YtnmlihfpenjeiaaGreatPY0
namespace Go.Proofs.YtnmlihfpenjeiaaGreat.Abs
open Go Go.RowKit Go.IntWalk
set_option linter.unusedVariables false
set_option linter.unusedSimpArgs false
set_option linter.unnecessarySimpa false
set_option maxRecDepth 100000
set_option linter.unusedSimpArgs false
set_option linter.unnecessarySimpa false
set_option maxRecDepth 100000
theorem zLm (a b c:Int):zBd a b c=some (decide (b≤a∧a≤c)):=by
 rw [zBd,andB];congr 1;simp
theorem zXy (a b c:Int):zDI a b c=some (decide (b≤a∧a≤c)):=by
 rw [zDI,andB];congr 1;simp
abbrev oneF (m:zAf):Int:=sShl .i64 1 m.F_Frac
def zHQ (c:zAq):Prop:=zDr c.F_M∧zFX c.F_H (dimN c.F_M)∧((1≤c.F_N∧c.F_N≤64)∧(0≤c.F_Warm∧c.F_Warm≤1048576)∧(0≤c.F_Rate∧c.F_Rate≤oneF c.F_M)∧(0≤c.F_Mom∧c.F_Mom≤oneF c.F_M)∧0≤c.F_Clip)∧(c.F_L.length≤256∧1≤c.F_Batch∧c.F_Batch≤64∧c.F_Batch≤(c.F_L.length:Int))∧(∀s∈c.F_L,goes c.F_M s=true)
instance (c:zAq):Decidable (zHQ c):=by unfold zHQ;infer_instance
theorem zWD {m:zAf} (hm:zDr m) (w:List Int) (hw:(w.length:Int)=dimN m) (l:List zAa) (hl:l.length≤4398046511000) (a1 a7 a8 a9 a10 a11 a12 a13 a14 a15:Int) (a16:List zAa):
  ∀(t:List zAa) (k:Nat),l.drop k=t→∃r,zAs l a1 m.F_Kind m.F_In m.F_Out m.F_Hid m.F_Frac a7 a8 a9 a10 a11 a12 a13 a14 a15 a16 w (k:Int)=some r∧(t.all (goes m)=true∧r= .inr ()∨t.all (goes m)=false∧∃j:Nat,r= .inl (j:Int))
 | [],k,h=>⟨_,by rw [zAs,if_neg (zAT h)], .inl ⟨rfl,rfl⟩⟩
 | x::t,k,h=>by
  obtain ⟨g1,g2,g3⟩:=zAw h
  obtain ⟨e,f1,f2⟩:=zAcj hm hw x
  rw [zAs,if_pos g1,if_pos ⟨by omega,g1⟩,g2,zGK,f1,zAb,zAb]
  by_cases he:e=0
  ·obtain ⟨r,h1,h2⟩:=zWD hm w hw l hl a1 a7 a8 a9 a10 a11 a12 a13 a14 a15 a16 t (k+1) g3
   rw [if_neg (by simp [he]),zAO (by omega),h1]
   refine ⟨r,rfl, ?_⟩
   rw [List.all_cons,f2.1 he,Bool.true_and];exact h2
  ·rw [if_pos (by simpa using he)]
   refine ⟨_,rfl, .inr ⟨?_,k,rfl⟩⟩
   have:goes m x=false:=by cases hg:goes m x with
    | true=>exact absurd (f2.2 hg) he
    | false=>rfl
   rw [List.all_cons,this];rfl
theorem zAbb {m:zAf} (hm:zDr m) (w:List Int) (hw:(w.length:Int)=dimN m) (l:List zAa) (hl:l.length≤4398046511000) (a1 a7 a8 a9 a10 a11 a12 a13 a14 a15:Int) (a16:List zAa):
  zAJ l a1 m.F_Kind m.F_In m.F_Out m.F_Hid m.F_Frac a7 a8 a9 a10 a11 a12 a13 a14 a15 a16 w=some (!(l.all (goes m))):=by
 obtain ⟨r,h1,h2⟩:=zWD hm w hw l hl a1 a7 a8 a9 a10 a11 a12 a13 a14 a15 a16 l 0 rfl
 rw [show ((0:Nat):Int)=0 from rfl] at h1
 rw [zAJ,zA0,h1,zAb]
 rcases h2 with ⟨h2,rfl⟩ | ⟨h2,j,rfl⟩
 ·simp [zAb,h2]
 ·simp [zAb,h2]
theorem zNY (c:zAq) (hl:c.F_L.length≤4398046511000):zFH c=some (if zHQ c then 0 else 1):=by
 rw [zFH,zAbW,zAb]
 by_cases hm:zDr c.F_M
 rotate_left
 ·rw [if_neg hm,if_pos (by simp),zAb,if_pos rfl,if_neg (fun h=>hm h.1)]
 rw [if_pos hm,if_neg (by simp)]
 simp only
 rw [zAaL,zAb,zAb]
 by_cases hh:zFX c.F_H (dimN c.F_M)
 rotate_left
 ·rw [if_neg hh,if_pos (by simp),if_neg (fun h=>hh h.2.1)]
 rw [if_pos hh,if_neg (by simp),if_pos hm.2.1.1]
 simp only [zLm,zXy,zAb,orB]
 by_cases hA:(1≤c.F_N∧c.F_N≤64)∧(0≤c.F_Warm∧c.F_Warm≤1048576)∧(0≤c.F_Rate∧c.F_Rate≤oneF c.F_M)∧(0≤c.F_Mom∧c.F_Mom≤oneF c.F_M)∧0≤c.F_Clip
 rotate_left
 ·rw [if_pos (by simp only [Bool.or_eq_true,Bool.not_eq_true',decide_eq_false_iff_not,decide_eq_true_eq];unfold oneF at hA;omega),if_neg (fun h=>hA h.2.2.1)]
 rw [if_neg (by simp only [Bool.or_eq_true,Bool.not_eq_true',decide_eq_false_iff_not,decide_eq_true_eq];unfold oneF at hA;omega)]
 by_cases hB:c.F_L.length≤256∧1≤c.F_Batch∧c.F_Batch≤64∧c.F_Batch≤(c.F_L.length:Int)
 rotate_left
 ·rw [if_pos (by simp only [Bool.or_eq_true,Bool.not_eq_true',decide_eq_false_iff_not,decide_eq_true_eq];split<;>omega),if_neg (fun h=>hB h.2.2.2.1)]
 have hd:=zQy hm
 rw [if_neg (by simp only [Bool.or_eq_true,Bool.not_eq_true',decide_eq_false_iff_not,decide_eq_true_eq];split<;>omega),if_pos ⟨by omega,by omega,by omega,by omega⟩,zAbb hm _ (by simp;omega) _ hl,zAb]
 by_cases hg:∀s∈c.F_L,goes c.F_M s=true
 ·rw [if_neg (by rw [List.all_eq_true.2 hg];simp),if_pos ⟨hm,hh,hA,hB,hg⟩]
 ·rw [if_pos (by cases h:c.F_L.all (goes c.F_M) with
   | true=>exact absurd (List.all_eq_true.1 h) hg
   | false=>rfl),if_neg (fun h=>hg h.2.2.2.2)]
theorem zV8 (c:zAq) (hl:c.F_L.length≤4398046511000):∀(t:List zAa) (k:Nat),c.F_L.drop k=t→∃r,zCm c (k:Int)=some r∧(r= .inl false∨r= .inr ())
 | [],k,h=>⟨_,by rw [zCm,if_neg (zAT h)], .inr rfl⟩
 | x::t,k,h=>by
  obtain ⟨g1,g2,g3⟩:=zAw h
  rw [zCm,if_pos g1,if_pos ⟨by omega,g1⟩]
  split
  ·exact ⟨_,rfl, .inl rfl⟩
  ·rw [zAO (by omega)];exact zV8 c hl t (k+1) g3
theorem zAbk (c:zAq) (hl:c.F_L.length≤4398046511000):∃b,zGa c=some b∧(b=true→c.F_L.length≤300):=by
 obtain ⟨r,h1,h2⟩:=zV8 c hl c.F_L 0 rfl
 rw [show ((0:Nat):Int)=0 from rfl] at h1
 rw [zGa,h1,zAb]
 rcases h2 with rfl | rfl
 ·exact ⟨false,rfl,by simp⟩
 ·exact ⟨_,rfl,by simp;omega⟩
theorem zZT:zFt=some true:=by
 have k0:zDQ 10 2 4 0=some (10,0):=by kernel_rfl
 have k1:zDQ 10 2 4 1=some (8,0):=by kernel_rfl
 have k2:zDQ 10 2 4 2=some (6,0):=by kernel_rfl
 have k3:zDQ 10 2 4 3=some (4,0):=by kernel_rfl
 have k4:zDQ 10 2 4 4=some (2,0):=by kernel_rfl
 have k5:zDQ 10 2 4 5=some (2,0):=by kernel_rfl
 have w:∀a:Int,0≤a∧a≤10→IntKind.i64.wrap (a+1)=a+1:=fun a h=>i64_in _ (by omega)
 have step:∀(a v:Int),0≤a∧a<6→zDQ 10 2 4 a=some (v,0)→v=at' [10,8,6,4,2,2] a→zBy a=zBy (a+1):=by
  intro a v h1 h2 h3
  rw [zBy,if_pos (by simp;omega),if_pos (by simp;omega),h2,zAb,orB]
  simp only
  rw [if_neg (by simp [h3]),w a (by omega)]
 have hl:zBy 0=some (.inr ()):=by
  rw [step 0 10 (by omega) k0 rfl,show (0:Int)+1=1 from rfl,step 1 8 (by omega) k1 rfl,show (1:Int)+1=2 from rfl,step 2 6 (by omega) k2 rfl,show (2:Int)+1=3 from rfl,step 3 4 (by omega) k3 rfl,show (3:Int)+1=4 from rfl,step 4 2 (by omega) k4 rfl,show (4:Int)+1=5 from rfl,step 5 2 (by omega) k5 rfl,show (5:Int)+1=6 from rfl,zBy,if_neg (by simp)]
 rw [zFt,hl,zAb]
 simp only
 rw [zNY _ (by simp),if_pos (by decide),zAb,if_pos rfl,zNY _ (by simp),if_neg (by decide),zAb,zAb];rfl
end Go.Proofs.YtnmlihfpenjeiaaGreat.Abs
