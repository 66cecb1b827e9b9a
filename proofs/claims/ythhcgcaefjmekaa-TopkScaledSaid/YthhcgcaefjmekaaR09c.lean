/- TopkScaled: whatever comes in it answers true, and what came in reads as it did. Conditions: none. -/
import Derived.Test.YthhcgcaefjmekaaKW
import Derived.Test.YthhcgcaefjmekaaPH6
import Derived.Test.YthhcgcaefjmekaaRows
import Derived.Test.YthhcgcaefjmekaaAbs6
import Derived.JoinedOf
import Derived.OpenShut
namespace Go.Proofs.Ythhcgcaefjmekaa.Abs
open Go Go.RowKit Go.ChangeShapes Go.WideShapes Go.ChangeAt
set_option linter.unusedVariables false
set_option maxRecDepth 100000
theorem topkScaled_law (xs : List D) (h : Ty.oks [.int .i64, .lst 8 (.int .i64), .int .i64] xs) : EvF Try.prog 16 xs (.d (.bool true)) := by
  obtain ⟨x0, ys, rfl, h0, h⟩ := oks_1 h
  obtain ⟨x1, ys, rfl, h1, h⟩ := oks_1 h
  obtain ⟨x2, ys, rfl, h2, h⟩ := oks_1 h
  obtain rfl := oks_0 h
  obtain ⟨a0, rfl, k0⟩ := ok_int h0
  obtain ⟨a1, rfl, b1, k1⟩ := ok_ints h1
  obtain ⟨a2, rfl, k2⟩ := ok_int h2
  exact ok_thrumlaw09_TopkScaled a0 a1 a2 true (TopkScaled_true a0 a1 a2 (InK_i64 k0) (fun x hx => InK_i64 (k1 x hx)) (InK_i64 k2))
theorem topkScaled_own : ownKnob Try.prog.godebug = none := by kernel_rfl
theorem topkScaled_laid : laidOutB Try.prog = true := by kernel_rfl
theorem topkScaled_tys : valTys Try.prog Try.f16.params.toList = some [.int .i64, .lst 8 (.int .i64), .int .i64] := by kernel_rfl
theorem topkScaled_rd : Try.f16.params.toList.all (fun t => Try.prog.readableRec t && decide (t < Try.prog.types.size)) = true := by kernel_rfl
theorem topkScaled_lifted (os : Os) (started : os.Started) (H : Type) (enc : TypeId × Value → H) : ReturnsInHanded {} Try.checked os 16 .any (Rows.topkScaledSpec.pre6 enc Try.prog Try.f16 Rows.topkScaledRow.domain false) (Rows.topkScaledSpec.post enc Try.prog Try.f16 false true false false) := by
  refine lift_law (C := Try.checked) (tb := 4) (ys := [.int .i64, .lst 8 (.int .i64), .int .i64]) topkScaled_own started (by kernel_rfl) Try.func16
    (ChangeSpec.witness6 (enc := enc) (C := Try.checked) false ⟨#[], #[.int .i64 0, .slice none 0 0, .int .i64 0], []⟩ 8 (by kernel_rfl) (by kernel_rfl) (by kernel_rfl) (by kernel_rfl)) rfl (by kernel_rfl) (by kernel_rfl) topkScaled_laid topkScaled_rd topkScaled_tys ?_ topkScaled_law
  intro ds hds
  rw [show Try.f16.params.toList.length = 3 from by kernel_rfl] at hds
  match ds, hds with
  | [d0, d1, d2], _ => rfl
theorem topkScaled_cl : Try.prog.closure 16 = [16, 50, 52, 99, 107, 100, 146, 101, 102, 147, 103, 104, 149, 186, 171, 148, 178, 150, 187, 179, 206, 180, 207, 208, 181, 209, 210, 220, 182, 183, 184, 185, 57, 53, 51, 63, 114, 153, 162, 161, 192, 64, 106, 152] := by kernel_rfl
theorem topkScaled_in : Rows.topkScaledRow.inPlace = Try.prog.inPlace 16 := by unfold Program.inPlace; rw [topkScaled_cl]; kernel_rfl
theorem topkScaled_un : Rows.topkScaledRow.unfollowed = Try.prog.unfollowed 16 := by unfold Program.unfollowed; rw [topkScaled_cl]; kernel_rfl
theorem topkScaled_re : Rows.topkScaledRow.recurses = Try.prog.recurses 16 := by unfold Program.recurses; rw [← topkScaled_un]; rfl
theorem topkScaled_na : Rows.topkScaledRow.named = Try.prog.varsNamed 16 := by unfold Program.varsNamed; rw [topkScaled_cl]; kernel_rfl
theorem topkScaled_mr : mapsRowed Try.prog = true := by kernel_rfl
theorem topkScaled_jf : joinedFacts Try.prog 16 Try.f16 Rows.topkScaledSpec Rows.topkScaledRow = true := by unfold joinedFacts; rw [topkScaled_laid, topkScaled_mr, ← topkScaled_in, ← topkScaled_un, ← topkScaled_re, ← topkScaled_na]; kernel_rfl
theorem topkScaled_over : Rows.topkScaledRow.holds Try.pinned (OpenSpec.ofChange Rows.topkScaledSpec) :=
  OpenClaim.holds_of_wide 16 Try.f16 rfl rfl rfl rfl rfl rfl rfl ⟨rfl, rfl, rfl, rfl, rfl⟩ rfl rfl rfl rfl rfl (by kernel_rfl) Try.func16 topkScaled_jf
    (of_decide_eq_true (by kernel_rfl)) (by unfold Func.isWrapper; first | (rw [if_pos (by decide +kernel)]; kernel_rfl) | (rw [if_neg (by decide +kernel)]; exact ⟨rfl, rfl⟩))
    (fun os started H enc _ => topkScaled_lifted os started H enc)
end Go.Proofs.Ythhcgcaefjmekaa.Abs
namespace Go.Proofs.Ythhcgcaefjmekaa
/-- The statement. -/
theorem topkScaled_holds : Rows.TopkScaledSaid := Abs.topkScaled_over
#print axioms topkScaled_holds
end Go.Proofs.Ythhcgcaefjmekaa
