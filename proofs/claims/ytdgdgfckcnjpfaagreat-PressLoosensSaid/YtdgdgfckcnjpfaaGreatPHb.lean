/- Plain facts: what is picked. Conditions: none. -/
import Derived.Test.YtdgdgfckcnjpfaaGreatPH3
namespace Go.Proofs.YtdgdgfckcnjpfaaGreat.Abs
open Go Go.RowKit Go.IntWalk
set_option linter.unusedVariables false
set_option linter.unusedSimpArgs false
set_option linter.unusedSectionVars false
set_option linter.unnecessarySimpa false
set_option maxRecDepth 100000
set_option linter.unusedSimpArgs false
set_option linter.unusedSectionVars false
set_option maxRecDepth 100000
set_option linter.unusedSimpArgs false
set_option linter.unusedSectionVars false
set_option maxRecDepth 100000
def I64s (v:List Int):Prop:=∀n∈v,-9223372036854775808≤n∧n≤9223372036854775807
set_option linter.unusedSimpArgs false
set_option linter.unusedSectionVars false
set_option maxRecDepth 100000
def zHq (v:List Int) (i:Nat):zAa:=⟨(i:Int),zDs (v.getD i 0)⟩
theorem zAbl {v:List Int} {i:Nat} (hi:i<v.length):zHq v i∈zDu v:=(zJB v 0 _).2 ⟨i,hi,by rw [Nat.zero_add];rfl⟩
theorem zOR {n:Int} (h: -9223372036854775808≤n∧n≤9223372036854775807):zBX n=some (zDs n):=by
 rw [zBX,zQZ h]
 split
 ·congr 1
  have w1:IntKind.i64.wrap (n+1)=n+1:=i64_in _ (by omega)
  have w2:IntKind.i64.wrap (0-(n+1))=0-(n+1):=i64_in _ (by omega)
  have w3:IntKind.u64.wrap (0-(n+1))=0-(n+1):=u64_in _ (by omega)
  rw [w1,w2,w3,u64_in _ (by omega)];omega
 ·congr 1
  rw [u64_in _ (by omega)];omega
theorem zX6 {v:List Int} (hi:I64s v) {n:Int}: -9223372036854775808≤at' v n∧at' v n≤9223372036854775807:=by
 unfold at'
 rcases Nat.lt_or_ge n.toNat v.length with h | h
 ·rw [List.getD_eq_getElem?_getD,List.getElem?_eq_getElem h];exact hi _ (by simp)
 ·rw [List.getD_eq_getElem?_getD,List.getElem?_eq_none h];decide
theorem zAdf {v:List Int} (hi:I64s v) {i k:Nat} (h1:i<v.length) (h2:k<v.length):zE5 v (i:Int) (k:Int)=some (decide (bh (zHq v k) (zHq v i))):=by
 rw [zE5,if_pos (by omega),zOR (zX6 hi),zAb,if_pos (by omega),zOR (zX6 hi),zAb,zV0,zV0]
 rw [show (default:Int)=0 from rfl]
 have hb:bh (zHq v k) (zHq v i)↔(zDs (v.getD k 0)<zDs (v.getD i 0)∨(zDs (v.getD k 0)=zDs (v.getD i 0)∧(i:Int)<(k:Int))):=Iff.rfl
 by_cases g1:zDs (v.getD i 0)>zDs (v.getD k 0)
 ·rw [if_pos g1,decide_eq_true (hb.2 (by omega))]
 ·rw [if_neg g1]
  by_cases g2:zDs (v.getD i 0)=zDs (v.getD k 0)
  ·rw [if_pos g2]
   congr 1
   rw [decide_eq_decide,hb]
   omega
  ·rw [if_neg g2,decide_eq_false (fun h=>by rw [hb] at h;omega)]
end Go.Proofs.YtdgdgfckcnjpfaaGreat.Abs
