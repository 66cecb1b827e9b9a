/- FrameBends: whatever comes in it answers true, and what came in reads as it did. Conditions: none. -/
import Derived.Test.YthhcgcaefjmekaaFW2
import Derived.Test.YthhcgcaefjmekaaPF2
import Derived.Test.YthhcgcaefjmekaaRows
import Derived.Test.YthhcgcaefjmekaaAbs6
import Derived.JoinedOf
import Derived.OpenShut
namespace Go.Proofs.Ythhcgcaefjmekaa.Abs
open Go Go.RowKit Go.ChangeShapes Go.WideShapes Go.ChangeAt
set_option linter.unusedVariables false
set_option maxRecDepth 100000
theorem frameBends_law (xs : List D) (h : Ty.oks [.agg [.int .i64, .int .i64, .int .i64, .int .i64, .int .i64, .lst 8 (.int .i64), .lst 8 (.int .i64), .int .i64, .int .i64, .lst 8 (.int .u64), .lst 1 (.bool)]] xs) : EvF Try.prog 6 xs (.d (.bool true)) := by
  obtain ⟨x0, ys, rfl, h0, h⟩ := oks_1 h
  obtain rfl := oks_0 h
  simp only [Ty.ok] at h0
  obtain ⟨c0, rfl, h0⟩ := h0
  obtain ⟨x0_0, ys, rfl, h0_0, h0⟩ := oks_1 h0
  obtain ⟨x0_1, ys, rfl, h0_1, h0⟩ := oks_1 h0
  obtain ⟨x0_2, ys, rfl, h0_2, h0⟩ := oks_1 h0
  obtain ⟨x0_3, ys, rfl, h0_3, h0⟩ := oks_1 h0
  obtain ⟨x0_4, ys, rfl, h0_4, h0⟩ := oks_1 h0
  obtain ⟨x0_5, ys, rfl, h0_5, h0⟩ := oks_1 h0
  obtain ⟨x0_6, ys, rfl, h0_6, h0⟩ := oks_1 h0
  obtain ⟨x0_7, ys, rfl, h0_7, h0⟩ := oks_1 h0
  obtain ⟨x0_8, ys, rfl, h0_8, h0⟩ := oks_1 h0
  obtain ⟨x0_9, ys, rfl, h0_9, h0⟩ := oks_1 h0
  obtain ⟨x0_10, ys, rfl, h0_10, h0⟩ := oks_1 h0
  obtain rfl := oks_0 h0
  obtain ⟨a0_0, rfl, k0_0⟩ := ok_int h0_0
  obtain ⟨a0_1, rfl, k0_1⟩ := ok_int h0_1
  obtain ⟨a0_2, rfl, k0_2⟩ := ok_int h0_2
  obtain ⟨a0_3, rfl, k0_3⟩ := ok_int h0_3
  obtain ⟨a0_4, rfl, k0_4⟩ := ok_int h0_4
  obtain ⟨a0_5, rfl, b0_5, k0_5⟩ := ok_ints h0_5
  obtain ⟨a0_6, rfl, b0_6, k0_6⟩ := ok_ints h0_6
  obtain ⟨a0_7, rfl, k0_7⟩ := ok_int h0_7
  obtain ⟨a0_8, rfl, k0_8⟩ := ok_int h0_8
  obtain ⟨a0_9, rfl, b0_9, k0_9⟩ := ok_ints h0_9
  obtain ⟨a0_10, rfl, b0_10, k0_10⟩ := ok_bools h0_10
  exact ok_thrumlaw07_FrameBends ⟨a0_0, a0_1, a0_2, ⟨a0_3, a0_4, a0_5, a0_6, a0_7, a0_8, a0_9, a0_10⟩⟩ true (FrameBends_true _ ⟨by simp only; omega, by simp only; omega, by simp only; omega, by simp only; omega, fun n hn => InK_u64 (k0_9 n hn)⟩)
theorem frameBends_own : ownKnob Try.prog.godebug = none := by kernel_rfl
theorem frameBends_laid : laidOutB Try.prog = true := by kernel_rfl
theorem frameBends_tys : valTys Try.prog Try.f6.params.toList = some [.agg [.int .i64, .int .i64, .int .i64, .int .i64, .int .i64, .lst 8 (.int .i64), .lst 8 (.int .i64), .int .i64, .int .i64, .lst 8 (.int .u64), .lst 1 (.bool)]] := by kernel_rfl
theorem frameBends_rd : Try.f6.params.toList.all (fun t => Try.prog.readableRec t && decide (t < Try.prog.types.size)) = true := by kernel_rfl
theorem frameBends_lifted (os : Os) (started : os.Started) (H : Type) (enc : TypeId × Value → H) : ReturnsInHanded {} Try.checked os 6 .any (Rows.frameBendsSpec.pre6 enc Try.prog Try.f6 Rows.frameBendsRow.domain false) (Rows.frameBendsSpec.post enc Try.prog Try.f6 false true false false) := by
  refine lift_law (C := Try.checked) (tb := 4) (ys := [.agg [.int .i64, .int .i64, .int .i64, .int .i64, .int .i64, .lst 8 (.int .i64), .lst 8 (.int .i64), .int .i64, .int .i64, .lst 8 (.int .u64), .lst 1 (.bool)]]) frameBends_own started (by kernel_rfl) Try.func6
    (ChangeSpec.witness6 (enc := enc) (C := Try.checked) false ⟨#[], #[.agg #[.int .i64 0, .int .i64 0, .int .i64 0, .int .i64 0, .int .i64 0, .slice none 0 0, .slice none 0 0, .int .i64 0, .int .i64 0, .slice none 0 0, .slice none 0 0]], []⟩ 8 (by kernel_rfl) (by kernel_rfl) (by kernel_rfl) (by kernel_rfl)) rfl (by kernel_rfl) (by kernel_rfl) frameBends_laid frameBends_rd frameBends_tys ?_ frameBends_law
  intro ds hds
  rw [show Try.f6.params.toList.length = 1 from by kernel_rfl] at hds
  match ds, hds with
  | [d0], _ => rfl
theorem frameBends_over : Rows.frameBendsRow.holds Try.pinned (OpenSpec.ofChange Rows.frameBendsSpec) :=
  OpenClaim.holds_of_wide 6 Try.f6 rfl rfl rfl rfl rfl rfl rfl ⟨rfl, rfl, rfl, rfl, rfl⟩ rfl rfl rfl rfl rfl (by kernel_rfl) Try.func6 (by kernel_rfl)
    (of_decide_eq_true (by kernel_rfl)) (by unfold Func.isWrapper; first | (rw [if_pos (by decide +kernel)]; kernel_rfl) | (rw [if_neg (by decide +kernel)]; exact ⟨rfl, rfl⟩))
    (fun os started H enc _ => frameBends_lifted os started H enc)
end Go.Proofs.Ythhcgcaefjmekaa.Abs
namespace Go.Proofs.Ythhcgcaefjmekaa
/-- The statement. -/
theorem frameBends_holds : Rows.FrameBendsSaid := Abs.frameBends_over
#print axioms frameBends_holds
end Go.Proofs.Ythhcgcaefjmekaa
