/- Plain facts: sums that may go over. Conditions: none. -/
import Derived.Test.YtdgdgfckcnjpfaaGreatPB
import Derived.Test.YtdgdgfckcnjpfaaGreatZM
namespace Go.Proofs.YtdgdgfckcnjpfaaGreat.Abs
open Go Go.RowKit Go.IntWalk
set_option linter.unusedVariables false
set_option linter.unusedSimpArgs false
set_option maxRecDepth 100000
def J64 (x:Int):Prop:= -9223372036854775808≤x∧x≤9223372036854775807
theorem zAa1 (v:BitVec 64):IntKind.i64.wrap ((v.toNat:Nat):Int)<0↔v.msb=true:=by
 have:=v.isLt
 rw [BitVec.msb_eq_decide,decide_eq_true_iff,IntKind.wrap_i64]
 omega
theorem zSb {x:Int} (h:J64 x):(BitVec.ofInt 64 x).msb=decide (x<0):=by
 unfold J64 at h
 rw [BitVec.msb_eq_decide,BitVec.toNat_ofInt]
 congr 1
 rw [eq_iff_iff]
 omega
theorem zVJ {x y:Int} (hx:J64 x) (hy:J64 y):bAnd .i64 x y<0↔x<0∧y<0:=by
 unfold bAnd
 rw [show IntKind.i64.bits=64 from rfl,zAa1,BitVec.msb_and,zSb hx,zSb hy]
 simp
theorem zOl {x y:Int} (hx:J64 x) (hy:J64 y):bXor .i64 x y<0↔¬(x<0↔y<0):=by
 unfold bXor
 rw [show IntKind.i64.bits=64 from rfl,zAa1,BitVec.msb_xor,zSb hx,zSb hy]
 by_cases h1:x<0<;>by_cases h2:y<0<;>simp [h1,h2]
theorem zPP (x y:Int):J64 (bXor .i64 x y):=by
 unfold bXor;exact zRR _
theorem zAbp {a b:Int} (ha:J64 a) (hb:J64 b):bAnd .i64 (bXor .i64 a (IntKind.i64.wrap (a+b))) (bXor .i64 b (IntKind.i64.wrap (a+b)))<0↔¬J64 (a+b):=by
 rw [zVJ (zPP _ _) (zPP _ _),zOl ha (zRR _),zOl hb (zRR _)]
 unfold J64 at*
 rw [IntKind.wrap_i64]
 omega
theorem zAbQ {a b:Int} (ha:J64 a) (hb:J64 b):bAnd .i64 (bXor .i64 a b) (bXor .i64 a (IntKind.i64.wrap (a-b)))<0↔¬J64 (a-b):=by
 rw [zVJ (zPP _ _) (zPP _ _),zOl ha hb,zOl ha (zRR _)]
 unfold J64 at*
 rw [IntKind.wrap_i64]
 omega
end Go.Proofs.YtdgdgfckcnjpfaaGreat.Abs
