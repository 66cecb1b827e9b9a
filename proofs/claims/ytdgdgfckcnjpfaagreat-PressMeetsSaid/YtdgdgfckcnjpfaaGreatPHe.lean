/- Plain facts: loops that compare. Conditions: none. -/
import Derived.Test.YtdgdgfckcnjpfaaGreatPL5
namespace Go.Proofs.YtdgdgfckcnjpfaaGreat.Abs
open Go Go.RowKit Go.IntWalk
set_option linter.unusedVariables false
set_option linter.unusedSimpArgs false
set_option linter.unusedSectionVars false
set_option linter.unnecessarySimpa false
set_option maxRecDepth 100000
set_option linter.unusedSimpArgs false
set_option linter.unusedSectionVars false
set_option maxRecDepth 100000
theorem zAai {α:Type} [Inhabited α] [DecidableEq α] (F:Int→Option (Sum Bool Unit)) (a b:List α)
  (hF:∀k:Int,F k=if k<(a.length:Int) then if 0≤k∧k<(a.length:Int) then if 0≤k∧k<(b.length:Int) then if at' a k≠at' b k then some (.inl false) else F (IntKind.i64.wrap (k+1)) else none else none else some (.inr ()))
  (hl:a.length=b.length) (hb:a.length≤4611686018427387904):∀(t u:List α) (k:Nat),a.drop k=t→b.drop k=u→F (k:Int)=some (if t=u then .inr () else .inl false)
 | [],u,k,h1,h2=>by
  have:=List.drop_eq_nil_iff.1 h1
  have h3:u=[]:=by rw [←h2];exact List.drop_eq_nil_of_le (by omega)
  rw [hF,if_neg (zAI h1),h3];rfl
 | x::t,[],k,h1,h2=>by
  have:=List.drop_eq_nil_iff.1 h2
  have:=(zAm h1).1
  omega
 | x::t,y::u,k,h1,h2=>by
  have g1:=zAm h1
  have g2:=zAm h2
  rw [hF,if_pos g1.1,if_pos (by omega),if_pos (by omega),g1.2.1,g2.2.1,zA6 (by omega),zAai F a b hF hl hb t u (k+1) g1.2.2 g2.2.2]
  by_cases hxy:x=y
  ·subst hxy;simp
  ·simp [hxy]
theorem zP6 {α:Type} [Inhabited α] [DecidableEq α] (F:Int→Option (Sum Bool Unit)) (a b:List α)
  (hF:∀k:Int,F k=if k<(a.length:Int) then if 0≤k∧k<(a.length:Int) then if 0≤k∧k<(b.length:Int) then if at' a k≠at' b k then some (.inl false) else F (IntKind.i64.wrap (k+1)) else none else none else some (.inr ()))
  (hb:a.length≤4611686018427387904):(if (a.length:Int)≠(b.length:Int) then some false else (F 0)>>=fun e=>match e with | .inl r=>some r | .inr _=>some true)=some (decide (a=b)):=by
 by_cases hl:a.length=b.length
 ·have:=zAai F a b hF hl hb a b 0 rfl rfl
  rw [show ((0:Nat):Int)=0 from rfl] at this
  rw [if_neg (by omega),this]
  by_cases h:a=b
  ·simp [h]
  ·simp [h]
 ·rw [if_pos (by omega),decide_eq_false (fun h=>hl (by rw [h]))]
theorem zM1 (a b:List Int) (hb:a.length≤4611686018427387904):zDh a b=some (decide (a=b)):=by
 rw [zDh];exact zP6 _ a b (fun k=>by rw [zDa]) hb
theorem zSY (a b:List Int) (hb:a.length≤4611686018427387904):zCZ a b=some (decide (a=b)):=by
 rw [zCZ];exact zP6 _ a b (fun k=>by rw [zBQ]) hb
theorem zV8 (a b:List Bool) (hb:a.length≤4611686018427387904):zDt a b=some (decide (a=b)):=by
 rw [zDt];exact zP6 _ a b (fun k=>by rw [zB2]) hb
theorem zVR (a b:List Int) (hb:a.length≤4611686018427387904):zEH a b=some (decide (a=b)):=by
 rw [zEH];exact zP6 _ a b (fun k=>by rw [zCK]) hb
theorem zAbO (a b:List Int) (hb:a.length≤4611686018427387904):zBJ a b=some (decide (a=b)):=by
 rw [zBJ];exact zP6 _ a b (fun k=>by rw [zBa]) hb
theorem zNW (a b:List Int) (hb:a.length≤4611686018427387904):zAO a b=some (decide (a=b)):=by
 rw [zAO];exact zP6 _ a b (fun k=>by rw [zAL]) hb
structure Lens (s:zAc):Prop where
 l:s.F_L.length≤4611686018427387904
 v:s.F_V.length≤4611686018427387904
 e:s.F_Lev.length≤4611686018427387904
 n:s.F_Neg.length≤4611686018427387904
theorem zXv {a b:zAc} (h:Lens a):zDB a b=some (decide (a=b)):=by
 rw [zDB]
 simp only [zVR _ _ h.l,zM1 _ _ h.v,zSY _ _ h.e,zV8 _ _ h.n,zAb,andB]
 congr 1
 rw [Bool.eq_iff_iff]
 cases a;cases b
 simp [and_assoc]
end Go.Proofs.YtdgdgfckcnjpfaaGreat.Abs
