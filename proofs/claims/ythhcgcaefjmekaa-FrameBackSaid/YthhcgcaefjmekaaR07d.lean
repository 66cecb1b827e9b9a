/- FrameBack: whatever comes in it answers true, and what came in reads as it did. Conditions: none. -/
import Derived.Test.YthhcgcaefjmekaaGW
import Derived.Test.YthhcgcaefjmekaaPG10
import Derived.Test.YthhcgcaefjmekaaRows
import Derived.Test.YthhcgcaefjmekaaAbs6
import Derived.JoinedOf
import Derived.OpenShut
namespace Go.Proofs.Ythhcgcaefjmekaa.Abs
open Go Go.RowKit Go.ChangeShapes Go.WideShapes Go.ChangeAt
set_option linter.unusedVariables false
set_option maxRecDepth 100000
theorem frameBack_law (xs : List D) (h : Ty.oks [.agg [.int .i64, .int .i64, .int .i64, .int .i64, .int .i64, .lst 8 (.int .i64), .lst 8 (.int .i64), .int .i64, .int .i64, .lst 8 (.int .u64), .lst 1 (.bool)], .lst 1 (.int .u8)] xs) : EvF Try.prog 14 xs (.d (.bool true)) := by
  obtain ⟨x0, ys, rfl, h0, h⟩ := oks_1 h
  obtain ⟨x1, ys, rfl, h1, h⟩ := oks_1 h
  obtain rfl := oks_0 h
  simp only [Ty.ok] at h0
  obtain ⟨c0, rfl, h0⟩ := h0
  obtain ⟨x0_0, ys, rfl, h0_0, h0⟩ := oks_1 h0
  obtain ⟨x0_1, ys, rfl, h0_1, h0⟩ := oks_1 h0
  obtain ⟨x0_2, ys, rfl, h0_2, h0⟩ := oks_1 h0
  obtain ⟨x0_3, ys, rfl, h0_3, h0⟩ := oks_1 h0
  obtain ⟨x0_4, ys, rfl, h0_4, h0⟩ := oks_1 h0
  obtain ⟨x0_5, ys, rfl, h0_5, h0⟩ := oks_1 h0
  obtain ⟨x0_6, ys, rfl, h0_6, h0⟩ := oks_1 h0
  obtain ⟨x0_7, ys, rfl, h0_7, h0⟩ := oks_1 h0
  obtain ⟨x0_8, ys, rfl, h0_8, h0⟩ := oks_1 h0
  obtain ⟨x0_9, ys, rfl, h0_9, h0⟩ := oks_1 h0
  obtain ⟨x0_10, ys, rfl, h0_10, h0⟩ := oks_1 h0
  obtain rfl := oks_0 h0
  obtain ⟨a0_0, rfl, k0_0⟩ := ok_int h0_0
  obtain ⟨a0_1, rfl, k0_1⟩ := ok_int h0_1
  obtain ⟨a0_2, rfl, k0_2⟩ := ok_int h0_2
  obtain ⟨a0_3, rfl, k0_3⟩ := ok_int h0_3
  obtain ⟨a0_4, rfl, k0_4⟩ := ok_int h0_4
  obtain ⟨a0_5, rfl, b0_5, k0_5⟩ := ok_ints h0_5
  obtain ⟨a0_6, rfl, b0_6, k0_6⟩ := ok_ints h0_6
  obtain ⟨a0_7, rfl, k0_7⟩ := ok_int h0_7
  obtain ⟨a0_8, rfl, k0_8⟩ := ok_int h0_8
  obtain ⟨a0_9, rfl, b0_9, k0_9⟩ := ok_ints h0_9
  obtain ⟨a0_10, rfl, b0_10, k0_10⟩ := ok_bools h0_10
  obtain ⟨a1, rfl, b1, k1⟩ := ok_ints h1
  exact ok_thrumlaw07_FrameBack ⟨a0_0, a0_1, a0_2, ⟨a0_3, a0_4, a0_5, a0_6, a0_7, a0_8, a0_9, a0_10⟩⟩ _ true (FrameBack_true _ _ ⟨⟨by simp only; omega, by simp only; omega, by simp only; omega, by simp only; omega, fun n hn => InK_u64 (k0_9 n hn)⟩, fun n hn => InK_i64 (k0_6 n hn), InK_i64 k0_7⟩ (fun x hx => InK_u8 (k1 x hx)))
theorem frameBack_own : ownKnob Try.prog.godebug = none := by kernel_rfl
theorem frameBack_laid : laidOutB Try.prog = true := by kernel_rfl
theorem frameBack_tys : valTys Try.prog Try.f14.params.toList = some [.agg [.int .i64, .int .i64, .int .i64, .int .i64, .int .i64, .lst 8 (.int .i64), .lst 8 (.int .i64), .int .i64, .int .i64, .lst 8 (.int .u64), .lst 1 (.bool)], .lst 1 (.int .u8)] := by kernel_rfl
theorem frameBack_rd : Try.f14.params.toList.all (fun t => Try.prog.readableRec t && decide (t < Try.prog.types.size)) = true := by kernel_rfl
theorem frameBack_lifted (os : Os) (started : os.Started) (H : Type) (enc : TypeId × Value → H) : ReturnsInHanded {} Try.checked os 14 .any (Rows.frameBackSpec.pre6 enc Try.prog Try.f14 Rows.frameBackRow.domain false) (Rows.frameBackSpec.post enc Try.prog Try.f14 false true false false) := by
  refine lift_law (C := Try.checked) (tb := 4) (ys := [.agg [.int .i64, .int .i64, .int .i64, .int .i64, .int .i64, .lst 8 (.int .i64), .lst 8 (.int .i64), .int .i64, .int .i64, .lst 8 (.int .u64), .lst 1 (.bool)], .lst 1 (.int .u8)]) frameBack_own started (by kernel_rfl) Try.func14
    (ChangeSpec.witness6 (enc := enc) (C := Try.checked) false ⟨#[], #[.agg #[.int .i64 0, .int .i64 0, .int .i64 0, .int .i64 0, .int .i64 0, .slice none 0 0, .slice none 0 0, .int .i64 0, .int .i64 0, .slice none 0 0, .slice none 0 0], .slice none 0 0], []⟩ 8 (by kernel_rfl) (by kernel_rfl) (by kernel_rfl) (by kernel_rfl)) rfl (by kernel_rfl) (by kernel_rfl) frameBack_laid frameBack_rd frameBack_tys ?_ frameBack_law
  intro ds hds
  rw [show Try.f14.params.toList.length = 2 from by kernel_rfl] at hds
  match ds, hds with
  | [d0, d1], _ => rfl
theorem frameBack_cl : Try.prog.closure 14 = [14, 28, 59, 42, 30, 31, 83, 106, 152, 153, 132, 133, 171, 131, 170, 82, 122, 123, 129, 130, 78, 76, 126, 88, 136, 91, 141, 137, 174, 173, 138, 175, 190, 211, 204, 158, 218, 176, 205, 219, 224, 139, 77, 125, 169, 202, 217, 216, 222, 225, 223, 226, 229, 233, 234, 235, 236, 237, 241, 242, 243, 244, 245, 239, 227, 230, 238, 240, 246, 247, 228, 232, 231, 24, 29, 60, 108, 154, 110, 155, 109, 111, 143, 112, 156, 177, 157, 188, 159, 189, 160, 191, 212, 43] := by kernel_rfl
theorem frameBack_in : Rows.frameBackRow.inPlace = Try.prog.inPlace 14 := by unfold Program.inPlace; rw [frameBack_cl]; kernel_rfl
theorem frameBack_un : Rows.frameBackRow.unfollowed = Try.prog.unfollowed 14 := by unfold Program.unfollowed; rw [frameBack_cl]; kernel_rfl
theorem frameBack_re : Rows.frameBackRow.recurses = Try.prog.recurses 14 := by unfold Program.recurses; rw [← frameBack_un]; rfl
theorem frameBack_na : Rows.frameBackRow.named = Try.prog.varsNamed 14 := by unfold Program.varsNamed; rw [frameBack_cl]; kernel_rfl
theorem frameBack_mr : mapsRowed Try.prog = true := by kernel_rfl
theorem frameBack_jf : joinedFacts Try.prog 14 Try.f14 Rows.frameBackSpec Rows.frameBackRow = true := by unfold joinedFacts; rw [frameBack_laid, frameBack_mr, ← frameBack_in, ← frameBack_un, ← frameBack_re, ← frameBack_na]; kernel_rfl
theorem frameBack_over : Rows.frameBackRow.holds Try.pinned (OpenSpec.ofChange Rows.frameBackSpec) :=
  OpenClaim.holds_of_wide 14 Try.f14 rfl rfl rfl rfl rfl rfl rfl ⟨rfl, rfl, rfl, rfl, rfl⟩ rfl rfl rfl rfl rfl (by kernel_rfl) Try.func14 frameBack_jf
    (of_decide_eq_true (by kernel_rfl)) (by unfold Func.isWrapper; first | (rw [if_pos (by decide +kernel)]; kernel_rfl) | (rw [if_neg (by decide +kernel)]; exact ⟨rfl, rfl⟩))
    (fun os started H enc _ => frameBack_lifted os started H enc)
end Go.Proofs.Ythhcgcaefjmekaa.Abs
namespace Go.Proofs.Ythhcgcaefjmekaa
/-- The statement. -/
theorem frameBack_holds : Rows.FrameBackSaid := Abs.frameBack_over
#print axioms frameBack_holds
end Go.Proofs.Ythhcgcaefjmekaa
