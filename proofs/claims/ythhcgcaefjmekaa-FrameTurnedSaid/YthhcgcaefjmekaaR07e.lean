/- FrameTurned: whatever comes in it answers true, and what came in reads as it did. Conditions: none. -/
import Derived.Test.YthhcgcaefjmekaaGW
import Derived.Test.YthhcgcaefjmekaaPT2
import Derived.Test.YthhcgcaefjmekaaRows
import Derived.Test.YthhcgcaefjmekaaAbs6
import Derived.JoinedOf
import Derived.OpenShut
namespace Go.Proofs.Ythhcgcaefjmekaa.Abs
open Go Go.RowKit Go.ChangeShapes Go.WideShapes Go.ChangeAt
set_option linter.unusedVariables false
set_option maxRecDepth 100000
theorem frameTurned_law (xs : List D) (h : Ty.oks [.agg [.int .i64, .int .i64, .int .i64, .int .i64, .int .i64, .lst 8 (.int .i64), .lst 8 (.int .i64), .int .i64, .int .i64, .lst 8 (.int .u64), .lst 1 (.bool)], .int .i64, .int .u32] xs) : EvF Try.prog 15 xs (.d (.bool true)) := by
  obtain ⟨x0, ys, rfl, h0, h⟩ := oks_1 h
  obtain ⟨x1, ys, rfl, h1, h⟩ := oks_1 h
  obtain ⟨x2, ys, rfl, h2, h⟩ := oks_1 h
  obtain rfl := oks_0 h
  simp only [Ty.ok] at h0
  obtain ⟨c0, rfl, h0⟩ := h0
  obtain ⟨x0_0, ys, rfl, h0_0, h0⟩ := oks_1 h0
  obtain ⟨x0_1, ys, rfl, h0_1, h0⟩ := oks_1 h0
  obtain ⟨x0_2, ys, rfl, h0_2, h0⟩ := oks_1 h0
  obtain ⟨x0_3, ys, rfl, h0_3, h0⟩ := oks_1 h0
  obtain ⟨x0_4, ys, rfl, h0_4, h0⟩ := oks_1 h0
  obtain ⟨x0_5, ys, rfl, h0_5, h0⟩ := oks_1 h0
  obtain ⟨x0_6, ys, rfl, h0_6, h0⟩ := oks_1 h0
  obtain ⟨x0_7, ys, rfl, h0_7, h0⟩ := oks_1 h0
  obtain ⟨x0_8, ys, rfl, h0_8, h0⟩ := oks_1 h0
  obtain ⟨x0_9, ys, rfl, h0_9, h0⟩ := oks_1 h0
  obtain ⟨x0_10, ys, rfl, h0_10, h0⟩ := oks_1 h0
  obtain rfl := oks_0 h0
  obtain ⟨a0_0, rfl, k0_0⟩ := ok_int h0_0
  obtain ⟨a0_1, rfl, k0_1⟩ := ok_int h0_1
  obtain ⟨a0_2, rfl, k0_2⟩ := ok_int h0_2
  obtain ⟨a0_3, rfl, k0_3⟩ := ok_int h0_3
  obtain ⟨a0_4, rfl, k0_4⟩ := ok_int h0_4
  obtain ⟨a0_5, rfl, b0_5, k0_5⟩ := ok_ints h0_5
  obtain ⟨a0_6, rfl, b0_6, k0_6⟩ := ok_ints h0_6
  obtain ⟨a0_7, rfl, k0_7⟩ := ok_int h0_7
  obtain ⟨a0_8, rfl, k0_8⟩ := ok_int h0_8
  obtain ⟨a0_9, rfl, b0_9, k0_9⟩ := ok_ints h0_9
  obtain ⟨a0_10, rfl, b0_10, k0_10⟩ := ok_bools h0_10
  obtain ⟨a1, rfl, k1⟩ := ok_int h1
  obtain ⟨a2, rfl, k2⟩ := ok_int h2
  obtain ⟨p, rfl⟩ := word_of (InK_u32 k2); exact ok_thrumlaw07_FrameTurned ⟨a0_0, a0_1, a0_2, ⟨a0_3, a0_4, a0_5, a0_6, a0_7, a0_8, a0_9, a0_10⟩⟩ _ _ true (FrameTurned_true _ _ _ ⟨⟨by simp only; omega, by simp only; omega, by simp only; omega, by simp only; omega, fun n hn => InK_u64 (k0_9 n hn)⟩, fun n hn => InK_i64 (k0_6 n hn), InK_i64 k0_7⟩ (InK_i64 k1).1 (InK_i64 k1).2)
theorem frameTurned_own : ownKnob Try.prog.godebug = none := by kernel_rfl
theorem frameTurned_laid : laidOutB Try.prog = true := by kernel_rfl
theorem frameTurned_tys : valTys Try.prog Try.f15.params.toList = some [.agg [.int .i64, .int .i64, .int .i64, .int .i64, .int .i64, .lst 8 (.int .i64), .lst 8 (.int .i64), .int .i64, .int .i64, .lst 8 (.int .u64), .lst 1 (.bool)], .int .i64, .int .u32] := by kernel_rfl
theorem frameTurned_rd : Try.f15.params.toList.all (fun t => Try.prog.readableRec t && decide (t < Try.prog.types.size)) = true := by kernel_rfl
theorem frameTurned_lifted (os : Os) (started : os.Started) (H : Type) (enc : TypeId × Value → H) : ReturnsInHanded {} Try.checked os 15 .any (Rows.frameTurnedSpec.pre6 enc Try.prog Try.f15 Rows.frameTurnedRow.domain false) (Rows.frameTurnedSpec.post enc Try.prog Try.f15 false true false false) := by
  refine lift_law (C := Try.checked) (tb := 4) (ys := [.agg [.int .i64, .int .i64, .int .i64, .int .i64, .int .i64, .lst 8 (.int .i64), .lst 8 (.int .i64), .int .i64, .int .i64, .lst 8 (.int .u64), .lst 1 (.bool)], .int .i64, .int .u32]) frameTurned_own started (by kernel_rfl) Try.func15
    (ChangeSpec.witness6 (enc := enc) (C := Try.checked) false ⟨#[], #[.agg #[.int .i64 0, .int .i64 0, .int .i64 0, .int .i64 0, .int .i64 0, .slice none 0 0, .slice none 0 0, .int .i64 0, .int .i64 0, .slice none 0 0, .slice none 0 0], .int .i64 0, .int .u32 0], []⟩ 8 (by kernel_rfl) (by kernel_rfl) (by kernel_rfl) (by kernel_rfl)) rfl (by kernel_rfl) (by kernel_rfl) frameTurned_laid frameTurned_rd frameTurned_tys ?_ frameTurned_law
  intro ds hds
  rw [show Try.f15.params.toList.length = 3 from by kernel_rfl] at hds
  match ds, hds with
  | [d0, d1, d2], _ => rfl
theorem frameTurned_cl : Try.prog.closure 15 = [15, 28, 59, 42, 30, 31, 83, 106, 152, 153, 132, 133, 171, 131, 170, 82, 122, 123, 129, 130, 78, 76, 126, 88, 136, 91, 141, 137, 174, 173, 138, 175, 190, 211, 204, 158, 218, 176, 205, 219, 224, 139, 77, 125, 169, 202, 217, 216, 222, 225, 223, 226, 229, 233, 234, 235, 236, 237, 241, 242, 243, 244, 245, 239, 227, 230, 238, 240, 246, 247, 228, 232, 231, 24, 29, 62, 60, 108, 154, 110, 155, 109, 111, 143, 112, 156, 177, 157, 188, 159, 189, 160, 191, 212] := by kernel_rfl
theorem frameTurned_in : Rows.frameTurnedRow.inPlace = Try.prog.inPlace 15 := by unfold Program.inPlace; rw [frameTurned_cl]; kernel_rfl
theorem frameTurned_un : Rows.frameTurnedRow.unfollowed = Try.prog.unfollowed 15 := by unfold Program.unfollowed; rw [frameTurned_cl]; kernel_rfl
theorem frameTurned_re : Rows.frameTurnedRow.recurses = Try.prog.recurses 15 := by unfold Program.recurses; rw [← frameTurned_un]; rfl
theorem frameTurned_na : Rows.frameTurnedRow.named = Try.prog.varsNamed 15 := by unfold Program.varsNamed; rw [frameTurned_cl]; kernel_rfl
theorem frameTurned_mr : mapsRowed Try.prog = true := by kernel_rfl
theorem frameTurned_jf : joinedFacts Try.prog 15 Try.f15 Rows.frameTurnedSpec Rows.frameTurnedRow = true := by unfold joinedFacts; rw [frameTurned_laid, frameTurned_mr, ← frameTurned_in, ← frameTurned_un, ← frameTurned_re, ← frameTurned_na]; kernel_rfl
theorem frameTurned_over : Rows.frameTurnedRow.holds Try.pinned (OpenSpec.ofChange Rows.frameTurnedSpec) :=
  OpenClaim.holds_of_wide 15 Try.f15 rfl rfl rfl rfl rfl rfl rfl ⟨rfl, rfl, rfl, rfl, rfl⟩ rfl rfl rfl rfl rfl (by kernel_rfl) Try.func15 frameTurned_jf
    (of_decide_eq_true (by kernel_rfl)) (by unfold Func.isWrapper; first | (rw [if_pos (by decide +kernel)]; kernel_rfl) | (rw [if_neg (by decide +kernel)]; exact ⟨rfl, rfl⟩))
    (fun os started H enc _ => frameTurned_lifted os started H enc)
end Go.Proofs.Ythhcgcaefjmekaa.Abs
namespace Go.Proofs.Ythhcgcaefjmekaa
/-- The statement. -/
theorem frameTurned_holds : Rows.FrameTurnedSaid := Abs.frameTurned_over
#print axioms frameTurned_holds
end Go.Proofs.Ythhcgcaefjmekaa
