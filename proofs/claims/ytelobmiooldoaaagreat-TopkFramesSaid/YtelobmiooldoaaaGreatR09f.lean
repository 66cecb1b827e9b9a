/- TopkFrames: whatever comes in it answers true, and what came in reads as it did. Conditions: none. -/
import Derived.Test.YtelobmiooldoaaaGreatGW2
import Derived.Test.YtelobmiooldoaaaGreatPR8
import Derived.Test.YtelobmiooldoaaaGreatRows
import Derived.Test.YtelobmiooldoaaaGreatAbs6
import Derived.JoinedOf
import Derived.OpenShut
namespace Go.Proofs.YtelobmiooldoaaaGreat.Abs
open Go Go.RowKit Go.ChangeShapes Go.WideShapes Go.ChangeAt
set_option linter.unusedVariables false
set_option maxRecDepth 100000
theorem topkFrames_law (xs : List D) (h : Ty.oks [.int .i64, .lst 8 (.int .i64)] xs) : EvF Tryz.prog 3 xs (.d (.bool true)) := by
  obtain ⟨x0, ys, rfl, h0, h⟩ := oks_1 h
  obtain ⟨x1, ys, rfl, h1, h⟩ := oks_1 h
  obtain rfl := oks_0 h
  obtain ⟨a0, rfl, k0⟩ := ok_int h0
  obtain ⟨a1, rfl, b1, k1⟩ := ok_ints h1
  exact ok_thrumlaw09_TopkFrames a0 a1 true (TopkFrames_true a0 a1 (fun x hx => InK_i64 (k1 x hx)))
theorem topkFrames_own : ownKnob Tryz.prog.godebug = none := by kernel_rfl
theorem topkFrames_laid : laidOutB Tryz.prog = true := by kernel_rfl
theorem topkFrames_tys : valTys Tryz.prog Tryz.f3.params.toList = some [.int .i64, .lst 8 (.int .i64)] := by kernel_rfl
theorem topkFrames_rd : Tryz.f3.params.toList.all (fun t => Tryz.prog.readableRec t && decide (t < Tryz.prog.types.size)) = true := by kernel_rfl
theorem topkFrames_lifted (os : Os) (started : os.Started) (H : Type) (enc : TypeId × Value → H) : ReturnsInHanded {} Tryz.checked os 3 .any (Rows.topkFramesSpec.pre6 enc Tryz.prog Tryz.f3 Rows.topkFramesRow.domain false) (Rows.topkFramesSpec.post enc Tryz.prog Tryz.f3 false true false false) := by
  refine lift_law (C := Tryz.checked) (tb := 4) (ys := [.int .i64, .lst 8 (.int .i64)]) topkFrames_own started (by kernel_rfl) Tryz.func3
    (ChangeSpec.witness6 (enc := enc) (C := Tryz.checked) false ⟨#[], #[.int .i64 0, .slice none 0 0], []⟩ 8 (by kernel_rfl) (by kernel_rfl) (by kernel_rfl) (by kernel_rfl)) rfl (by kernel_rfl) (by kernel_rfl) topkFrames_laid topkFrames_rd topkFrames_tys ?_ topkFrames_law
  intro ds hds
  rw [show Tryz.f3.params.toList.length = 2 from by kernel_rfl] at hds
  match ds, hds with
  | [d0, d1], _ => rfl
theorem topkFrames_cl : Tryz.prog.closure 3 = [3, 6, 31, 66, 72, 67, 109, 68, 69, 110, 70, 71, 112, 138, 120, 111, 129, 135, 151, 130, 146, 131, 147, 148, 132, 149, 150, 155, 133, 134, 136, 137, 32, 33, 7, 8, 11, 40, 42, 41, 82, 9, 23, 12, 43, 83, 118, 85, 86, 84, 119, 44, 87, 88, 89, 90, 34, 64, 73, 17, 50, 93, 122, 51, 95, 94, 52, 96, 116, 139, 123, 79, 141, 97, 124, 142, 152, 53, 30, 65, 108, 128, 145, 144, 153, 156, 154, 157, 160, 164, 165, 166, 167, 168, 172, 173, 174, 175, 176, 170, 158, 161, 169, 171, 177, 178, 159, 163, 162, 10, 35, 74, 37, 75, 36, 38, 76, 39, 77, 113, 78, 114, 80, 115, 81, 117, 140, 13, 45, 46, 47] := by kernel_rfl
theorem topkFrames_in : Rows.topkFramesRow.inPlace = Tryz.prog.inPlace 3 := by unfold Program.inPlace; rw [topkFrames_cl]; kernel_rfl
theorem topkFrames_un : Rows.topkFramesRow.unfollowed = Tryz.prog.unfollowed 3 := by unfold Program.unfollowed; rw [topkFrames_cl]; kernel_rfl
theorem topkFrames_re : Rows.topkFramesRow.recurses = Tryz.prog.recurses 3 := by unfold Program.recurses; rw [← topkFrames_un]; rfl
theorem topkFrames_na : Rows.topkFramesRow.named = Tryz.prog.varsNamed 3 := by unfold Program.varsNamed; rw [topkFrames_cl]; kernel_rfl
theorem topkFrames_mr : mapsRowed Tryz.prog = true := by kernel_rfl
theorem topkFrames_jf : joinedFacts Tryz.prog 3 Tryz.f3 Rows.topkFramesSpec Rows.topkFramesRow = true := by unfold joinedFacts; rw [topkFrames_laid, topkFrames_mr, ← topkFrames_in, ← topkFrames_un, ← topkFrames_re, ← topkFrames_na]; kernel_rfl
theorem topkFrames_over : Rows.topkFramesRow.holds Tryz.pinned (OpenSpec.ofChange Rows.topkFramesSpec) :=
  OpenClaim.holds_of_wide 3 Tryz.f3 rfl rfl rfl rfl rfl rfl rfl ⟨rfl, rfl, rfl, rfl, rfl⟩ rfl rfl rfl rfl rfl (by kernel_rfl) Tryz.func3 topkFrames_jf
    (of_decide_eq_true (by kernel_rfl)) (by unfold Func.isWrapper; first | (rw [if_pos (by decide +kernel)]; kernel_rfl) | (rw [if_neg (by decide +kernel)]; exact ⟨rfl, rfl⟩))
    (fun os started H enc _ => topkFrames_lifted os started H enc)
end Go.Proofs.YtelobmiooldoaaaGreat.Abs
namespace Go.Proofs.YtelobmiooldoaaaGreat
/-- The statement. -/
theorem topkFrames_holds : Rows.TopkFramesSaid := Abs.topkFrames_over
#print axioms topkFrames_holds
end Go.Proofs.YtelobmiooldoaaaGreat
