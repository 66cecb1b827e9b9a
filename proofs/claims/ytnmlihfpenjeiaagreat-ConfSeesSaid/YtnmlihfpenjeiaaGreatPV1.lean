/- Plain facts: sums that may go over. Conditions: none. -/
import Derived.Test.YtnmlihfpenjeiaaGreatPB
import Derived.Test.YtnmlihfpenjeiaaGreatEM
namespace Go.Proofs.YtnmlihfpenjeiaaGreat.Abs
open Go Go.RowKit Go.IntWalk
set_option linter.unusedVariables false
set_option linter.unusedSimpArgs false
set_option maxRecDepth 100000
def J64 (x:Int):Prop:= -9223372036854775808≤x∧x≤9223372036854775807
theorem zWw (v:BitVec 64):IntKind.i64.wrap ((v.toNat:Nat):Int)<0↔v.msb=true:=by
 have:=v.isLt
 rw [BitVec.msb_eq_decide,decide_eq_true_iff,IntKind.wrap_i64]
 omega
theorem zPZ {x:Int} (h:J64 x):(BitVec.ofInt 64 x).msb=decide (x<0):=by
 unfold J64 at h
 rw [BitVec.msb_eq_decide,BitVec.toNat_ofInt]
 congr 1
 rw [eq_iff_iff]
 omega
theorem zSe {x y:Int} (hx:J64 x) (hy:J64 y):bAnd .i64 x y<0↔x<0∧y<0:=by
 unfold bAnd
 rw [show IntKind.i64.bits=64 from rfl,zWw,BitVec.msb_and,zPZ hx,zPZ hy]
 simp
theorem zLJ {x y:Int} (hx:J64 x) (hy:J64 y):bXor .i64 x y<0↔¬(x<0↔y<0):=by
 unfold bXor
 rw [show IntKind.i64.bits=64 from rfl,zWw,BitVec.msb_xor,zPZ hx,zPZ hy]
 by_cases h1:x<0<;>by_cases h2:y<0<;>simp [h1,h2]
theorem zNt (x y:Int):J64 (bXor .i64 x y):=by
 unfold bXor;exact zM9 _
theorem zXD {a b:Int} (ha:J64 a) (hb:J64 b):bAnd .i64 (bXor .i64 a (IntKind.i64.wrap (a+b))) (bXor .i64 b (IntKind.i64.wrap (a+b)))<0↔¬J64 (a+b):=by
 rw [zSe (zNt _ _) (zNt _ _),zLJ ha (zM9 _),zLJ hb (zM9 _)]
 unfold J64 at*
 rw [IntKind.wrap_i64]
 omega
theorem zXk {a b:Int} (ha:J64 a) (hb:J64 b):bAnd .i64 (bXor .i64 a b) (bXor .i64 a (IntKind.i64.wrap (a-b)))<0↔¬J64 (a-b):=by
 rw [zSe (zNt _ _) (zNt _ _),zLJ ha hb,zLJ ha (zM9 _)]
 unfold J64 at*
 rw [IntKind.wrap_i64]
 omega
end Go.Proofs.YtnmlihfpenjeiaaGreat.Abs
