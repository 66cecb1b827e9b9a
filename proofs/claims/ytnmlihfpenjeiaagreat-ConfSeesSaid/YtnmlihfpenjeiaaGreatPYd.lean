/- Plain facts: numbers drawn; what the document says of ways. Conditions: none. -/
import Derived.Test.YtnmlihfpenjeiaaGreatPY0
namespace Go.Proofs.YtnmlihfpenjeiaaGreat.Abs
open Go Go.RowKit Go.IntWalk
set_option linter.unusedVariables false
set_option linter.unusedSimpArgs false
set_option linter.unnecessarySimpa false
set_option maxRecDepth 100000
set_option linter.unusedSimpArgs false
set_option linter.unnecessarySimpa false
set_option maxRecDepth 100000
def zEi (a n:Int):Int:=bXor .u64 (IntKind.u64.wrap ((bXor .u64 a (IntKind.u64.wrap n))*11400714819323198485)) (sShr .u64 (IntKind.u64.wrap ((bXor .u64 a (IntKind.u64.wrap n))*11400714819323198485)) 29)
def zHn (a:Int):Int:=bXor .u64 (IntKind.u64.wrap (a*13787848793156543929)) (sShr .u64 (IntKind.u64.wrap (a*13787848793156543929)) 32)
def zIt (seed:Int) (l:List Int):Int:=zHn (l.foldl zEi seed)
theorem zQA (l:List Int) (hl:l.length≤1000000):∀(t:List Int) (k:Nat) (a:Int),l.drop k=t→zDL l (k:Int) a=some (t.foldl zEi a)
 | [],k,a,h1=>by rw [zDL,if_neg (zAP h1)];rfl
 | x::t,k,a,h1=>by
  have g1:=zAw h1
  rw [zDL,if_pos g1.1,if_pos (by omega),g1.2.1,zBp,zAb,zAJ (by omega)]
  exact zQA l hl t (k+1) _ g1.2.2
theorem zSD (seed:Int) (l:List Int):0≤zIt seed l∧zIt seed l≤18446744073709551615:=by
 unfold zIt zHn bXor;exact zSP _
theorem zUS (l:List Int) (hl:l.length≤1000000):∀(t:List Int) (k:Nat) (a:Int),l.drop k=t→zDU l (k:Int) a=some (t.foldl zEi a)
 | [],k,a,h1=>by rw [zDU,if_neg (zAP h1)];rfl
 | x::t,k,a,h1=>by
  have g1:=zAw h1
  rw [zDU,if_pos g1.1,if_pos (by omega),g1.2.1,zAb,zAJ (by omega)]
  exact zUS l hl t (k+1) _ g1.2.2
theorem zVj {q seed:Int} {l:List Int} (hl:l.length≤1000000) (hq:0<q):zGj q seed l=some (Int.tmod (zIt seed l) q,0):=by
 have:=zUS l hl l 0 seed rfl
 rw [show ((0:Nat):Int)=0 from rfl] at this
 rw [zGj,if_neg (by omega),zKk,this,zAb,zAb,if_pos (by omega)]
 rfl
set_option linter.unusedSimpArgs false
set_option linter.unnecessarySimpa false
set_option maxRecDepth 100000
theorem zUe (h:zBb) (d:Int):zGo h d=some (if zFq h d then 0 else 1):=by
 obtain ⟨s,k,w⟩:=h
 have hb:∀b:Bool,(if b=false then some 1 else some 0:Option Int)=some (if b then 0 else 1):=fun b=>by cases b<;>rfl
 rw [zGo]
 simp only [orB,andB,zAb,hb]
 unfold zFq
 by_cases c0:s=0
 ·subst c0
  by_cases h1:1≤d∧d≤4096<;>by_cases h2:k=0<;>by_cases h3:w=0<;>simp [h1,h2,h3]<;>omega
 by_cases c1:s=1
 ·subst c1
  by_cases h1:1≤d∧d≤4096<;>by_cases h2:0≤k∧k≤d<;>by_cases h3:w=0<;>simp [h1,h2,h3]<;>omega
 by_cases c2:s=2
 ·subst c2
  by_cases h1:1≤d∧d≤4096<;>by_cases h2:k=0<;>by_cases h3:0<w∧w≤8<;>simp [h1,h2,h3]<;>omega
 by_cases c3:s=3
 ·subst c3
  by_cases h1:1≤d∧d≤4096<;>by_cases h2:k=0<;>by_cases h3:w=0<;>simp [h1,h2,h3]<;>omega
 ·simp [c0,c1,c2,c3]
set_option linter.unusedSimpArgs false
set_option linter.unusedSectionVars false
set_option maxRecDepth 100000
theorem zWV {α:Type} [Inhabited α] [DecidableEq α] (F:Int→Option (Sum Bool Unit)) (a b:List α)
  (hF:∀k:Int,F k=if k<(a.length:Int) then if 0≤k∧k<(a.length:Int) then if 0≤k∧k<(b.length:Int) then if at' a k≠at' b k then some (.inl false) else F (IntKind.i64.wrap (k+1)) else none else none else some (.inr ()))
  (hl:a.length=b.length) (hb:a.length≤4611686018427387904):∀(t u:List α) (k:Nat),a.drop k=t→b.drop k=u→F (k:Int)=some (if t=u then .inr () else .inl false)
 | [],u,k,h1,h2=>by
  have:=List.drop_eq_nil_iff.1 h1
  have h3:u=[]:=by rw [←h2];exact List.drop_eq_nil_of_le (by omega)
  rw [hF,if_neg (zAP h1),h3];rfl
 | x::t,[],k,h1,h2=>by
  have:=List.drop_eq_nil_iff.1 h2
  have:=(zAw h1).1
  omega
 | x::t,y::u,k,h1,h2=>by
  have g1:=zAw h1
  have g2:=zAw h2
  rw [hF,if_pos g1.1,if_pos (by omega),if_pos (by omega),g1.2.1,g2.2.1,zAJ (by omega),zWV F a b hF hl hb t u (k+1) g1.2.2 g2.2.2]
  by_cases hxy:x=y
  ·subst hxy;simp
  ·simp [hxy]
theorem zZW {α:Type} [Inhabited α] [DecidableEq α] (F:Int→Option (Sum Bool Unit)) (a b:List α)
  (hF:∀k:Int,F k=if k<(a.length:Int) then if 0≤k∧k<(a.length:Int) then if 0≤k∧k<(b.length:Int) then if at' a k≠at' b k then some (.inl false) else F (IntKind.i64.wrap (k+1)) else none else none else some (.inr ()))
  (hb:a.length≤4611686018427387904):(if (a.length:Int)≠(b.length:Int) then some false else (F 0)>>=fun e=>match e with | .inl r=>some r | .inr _=>some true)=some (decide (a=b)):=by
 by_cases hl:a.length=b.length
 ·have:=zWV F a b hF hl hb a b 0 rfl rfl
  rw [show ((0:Nat):Int)=0 from rfl] at this
  rw [if_neg (by omega),this]
  by_cases h:a=b
  ·simp [h]
  ·simp [h]
 ·rw [if_pos (by omega),decide_eq_false (fun h=>hl (by rw [h]))]
theorem zSQ (a b:List Int) (hb:a.length≤4611686018427387904):zEE a b=some (decide (a=b)):=by
 rw [zEE];exact zZW _ a b (fun k=>by rw [zDb]) hb
end Go.Proofs.YtnmlihfpenjeiaaGreat.Abs
