/- Plain facts: sums that may go over. Conditions: none. -/
import Derived.Test.YtdgdgfckcnjpfaaGreatPB
import Derived.Test.YtdgdgfckcnjpfaaGreatPM
namespace Go.Proofs.YtdgdgfckcnjpfaaGreat.Abs
open Go Go.RowKit Go.IntWalk
set_option linter.unusedVariables false
set_option linter.unusedSimpArgs false
set_option maxRecDepth 100000

def J64 (x : Int) : Prop := -9223372036854775808 ≤ x ∧ x ≤ 9223372036854775807
theorem bv_neg (v : BitVec 64) : IntKind.i64.wrap ((v.toNat : Nat) : Int) < 0 ↔ v.msb = true := by
  have := v.isLt
  rw [BitVec.msb_eq_decide, decide_eq_true_iff, IntKind.wrap_i64]
  omega
theorem bv_msb {x : Int} (h : J64 x) : (BitVec.ofInt 64 x).msb = decide (x < 0) := by
  unfold J64 at h
  rw [BitVec.msb_eq_decide, BitVec.toNat_ofInt]
  congr 1
  rw [eq_iff_iff]
  omega
theorem bAnd_neg {x y : Int} (hx : J64 x) (hy : J64 y) : bAnd .i64 x y < 0 ↔ x < 0 ∧ y < 0 := by
  unfold bAnd
  rw [show IntKind.i64.bits = 64 from rfl, bv_neg, BitVec.msb_and, bv_msb hx, bv_msb hy]
  simp
theorem bXor_neg {x y : Int} (hx : J64 x) (hy : J64 y) : bXor .i64 x y < 0 ↔ ¬ (x < 0 ↔ y < 0) := by
  unfold bXor
  rw [show IntKind.i64.bits = 64 from rfl, bv_neg, BitVec.msb_xor, bv_msb hx, bv_msb hy]
  by_cases h1 : x < 0 <;> by_cases h2 : y < 0 <;> simp [h1, h2]
theorem bXor_in (x y : Int) : J64 (bXor .i64 x y) := by
  unfold bXor; exact i64_ge _
/-- Do both have one sign, and the sum the other one? -/
theorem over_add {a b : Int} (ha : J64 a) (hb : J64 b) : bAnd .i64 (bXor .i64 a (IntKind.i64.wrap (a + b))) (bXor .i64 b (IntKind.i64.wrap (a + b))) < 0 ↔ ¬ J64 (a + b) := by
  rw [bAnd_neg (bXor_in _ _) (bXor_in _ _), bXor_neg ha (i64_ge _), bXor_neg hb (i64_ge _)]
  unfold J64 at *
  rw [IntKind.wrap_i64]
  omega
theorem over_sub {a b : Int} (ha : J64 a) (hb : J64 b) : bAnd .i64 (bXor .i64 a b) (bXor .i64 a (IntKind.i64.wrap (a - b))) < 0 ↔ ¬ J64 (a - b) := by
  rw [bAnd_neg (bXor_in _ _) (bXor_in _ _), bXor_neg ha hb, bXor_neg ha (i64_ge _)]
  unfold J64 at *
  rw [IntKind.wrap_i64]
  omega
end Go.Proofs.YtdgdgfckcnjpfaaGreat.Abs
