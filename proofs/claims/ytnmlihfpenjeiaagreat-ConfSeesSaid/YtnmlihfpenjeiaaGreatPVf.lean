/- Plain facts: sums that may go over. Conditions: none. -/
import Derived.Test.YtnmlihfpenjeiaaGreatPV1
import Derived.Test.YtnmlihfpenjeiaaGreatPV2
namespace Go.Proofs.YtnmlihfpenjeiaaGreat.Abs
open Go Go.RowKit Go.IntWalk
set_option linter.unusedVariables false
set_option linter.unusedSimpArgs false
set_option linter.unnecessarySimpa false
set_option maxRecDepth 100000
instance:DecidablePred J64:=fun x=>by unfold J64;infer_instance
def ov (x:Int):Int×Int:=if J64 x then (x,0) else (0,2)
theorem zRP {x:Int} (h:J64 x):IntKind.i64.wrap x=x:=i64_in _ h
theorem zQy {a b:Int} (ha:J64 a) (hb:J64 b):zHv a b=some (ov (a+b)):=by
 have h:=zXD ha hb
 rw [zHv,ov]
 by_cases c:J64 (a+b)
 ·rw [if_neg (fun x=>h.1 x c),if_pos c,zRP c]
 ·rw [if_pos (h.2 c),if_neg c]
theorem zNp {a b:Int} (ha:J64 a) (hb:J64 b):zEH a b=some (ov (a-b)):=by
 have h:=zXk ha hb
 rw [zEH,ov]
 by_cases c:J64 (a-b)
 ·rw [if_neg (fun x=>h.1 x c),if_pos c,zRP c]
 ·rw [if_pos (h.2 c),if_neg c]
end Go.Proofs.YtnmlihfpenjeiaaGreat.Abs
