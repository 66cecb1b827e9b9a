/- FrameReads: whatever comes in it answers true, and what came in reads as it did. Conditions: none. -/
import Derived.Test.YtelobmiooldoaaaGreatGW2
import Derived.Test.YtelobmiooldoaaaGreatPR7
import Derived.Test.YtelobmiooldoaaaGreatRows
import Derived.Test.YtelobmiooldoaaaGreatAbs6
import Derived.JoinedOf
import Derived.OpenShut
namespace Go.Proofs.YtelobmiooldoaaaGreat.Abs
open Go Go.RowKit Go.ChangeShapes Go.WideShapes Go.ChangeAt
set_option linter.unusedVariables false
set_option maxRecDepth 100000
theorem frameReads_law (xs : List D) (h : Ty.oks [.lst 1 (.int .u8)] xs) : EvF Tryz.prog 5 xs (.d (.bool true)) := by
  obtain ⟨x0, ys, rfl, h0, h⟩ := oks_1 h
  obtain rfl := oks_0 h
  obtain ⟨a0, rfl, b0, k0⟩ := ok_ints h0
  exact ok_thrumlaw07_FrameReads a0 true (FrameReads_true a0 (fun x hx => InK_u8 (k0 x hx)))
theorem frameReads_own : ownKnob Tryz.prog.godebug = none := by kernel_rfl
theorem frameReads_laid : laidOutB Tryz.prog = true := by kernel_rfl
theorem frameReads_tys : valTys Tryz.prog Tryz.f5.params.toList = some [.lst 1 (.int .u8)] := by kernel_rfl
theorem frameReads_rd : Tryz.f5.params.toList.all (fun t => Tryz.prog.readableRec t && decide (t < Tryz.prog.types.size)) = true := by kernel_rfl
theorem frameReads_lifted (os : Os) (started : os.Started) (H : Type) (enc : TypeId × Value → H) : ReturnsInHanded {} Tryz.checked os 5 .any (Rows.frameReadsSpec.pre6 enc Tryz.prog Tryz.f5 Rows.frameReadsRow.domain false) (Rows.frameReadsSpec.post enc Tryz.prog Tryz.f5 false true false false) := by
  refine lift_law (C := Tryz.checked) (tb := 4) (ys := [.lst 1 (.int .u8)]) frameReads_own started (by kernel_rfl) Tryz.func5
    (ChangeSpec.witness6 (enc := enc) (C := Tryz.checked) false ⟨#[], #[.slice none 0 0], []⟩ 8 (by kernel_rfl) (by kernel_rfl) (by kernel_rfl) (by kernel_rfl)) rfl (by kernel_rfl) (by kernel_rfl) frameReads_laid frameReads_rd frameReads_tys ?_ frameReads_law
  intro ds hds
  rw [show Tryz.f5.params.toList.length = 1 from by kernel_rfl] at hds
  match ds, hds with
  | [d0], _ => rfl
theorem frameReads_cl : Tryz.prog.closure 5 = [5, 14, 27, 9, 23, 12, 43, 83, 118, 40, 85, 86, 120, 84, 119, 44, 87, 88, 89, 90, 34, 64, 73, 17, 50, 93, 122, 51, 95, 94, 52, 96, 116, 139, 123, 79, 141, 97, 124, 142, 152, 53, 30, 65, 108, 128, 145, 144, 153, 156, 154, 157, 160, 164, 165, 166, 167, 168, 172, 173, 174, 175, 176, 170, 158, 161, 169, 171, 177, 178, 159, 163, 162, 21, 10, 35, 74, 37, 75, 36, 38, 76, 39, 77, 113, 78, 114, 80, 115, 81, 117, 140, 29, 60, 49, 92, 121, 61, 62, 102, 63, 103, 104, 126, 143, 105, 106, 127, 125, 107, 24, 22, 58, 101, 59, 13, 33, 45, 46, 47, 26] := by kernel_rfl
theorem frameReads_in : Rows.frameReadsRow.inPlace = Tryz.prog.inPlace 5 := by unfold Program.inPlace; rw [frameReads_cl]; kernel_rfl
theorem frameReads_un : Rows.frameReadsRow.unfollowed = Tryz.prog.unfollowed 5 := by unfold Program.unfollowed; rw [frameReads_cl]; kernel_rfl
theorem frameReads_re : Rows.frameReadsRow.recurses = Tryz.prog.recurses 5 := by unfold Program.recurses; rw [← frameReads_un]; rfl
theorem frameReads_na : Rows.frameReadsRow.named = Tryz.prog.varsNamed 5 := by unfold Program.varsNamed; rw [frameReads_cl]; kernel_rfl
theorem frameReads_mr : mapsRowed Tryz.prog = true := by kernel_rfl
theorem frameReads_jf : joinedFacts Tryz.prog 5 Tryz.f5 Rows.frameReadsSpec Rows.frameReadsRow = true := by unfold joinedFacts; rw [frameReads_laid, frameReads_mr, ← frameReads_in, ← frameReads_un, ← frameReads_re, ← frameReads_na]; kernel_rfl
theorem frameReads_over : Rows.frameReadsRow.holds Tryz.pinned (OpenSpec.ofChange Rows.frameReadsSpec) :=
  OpenClaim.holds_of_wide 5 Tryz.f5 rfl rfl rfl rfl rfl rfl rfl ⟨rfl, rfl, rfl, rfl, rfl⟩ rfl rfl rfl rfl rfl (by kernel_rfl) Tryz.func5 frameReads_jf
    (of_decide_eq_true (by kernel_rfl)) (by unfold Func.isWrapper; first | (rw [if_pos (by decide +kernel)]; kernel_rfl) | (rw [if_neg (by decide +kernel)]; exact ⟨rfl, rfl⟩))
    (fun os started H enc _ => frameReads_lifted os started H enc)
end Go.Proofs.YtelobmiooldoaaaGreat.Abs
namespace Go.Proofs.YtelobmiooldoaaaGreat
/-- The statement. -/
theorem frameReads_holds : Rows.FrameReadsSaid := Abs.frameReads_over
#print axioms frameReads_holds
end Go.Proofs.YtelobmiooldoaaaGreat
