/- PressDense: whatever comes in it answers true, and what came in reads as it did. Conditions: none. -/
import Derived.Test.YtdgdgfckcnjpfaaGreatDW
import Derived.Test.YtdgdgfckcnjpfaaGreatPV8
import Derived.Test.YtdgdgfckcnjpfaaGreatRows
import Derived.Test.YtdgdgfckcnjpfaaGreatAbs6
import Derived.JoinedOf
import Derived.OpenShut
namespace Go.Proofs.YtdgdgfckcnjpfaaGreat.Abs
open Go Go.RowKit Go.ChangeShapes Go.WideShapes Go.ChangeAt
set_option linter.unusedVariables false
set_option maxRecDepth 100000
theorem pressDense_law (xs : List D) (h : Ty.oks [.lst 8 (.int .i64), .int .i64] xs) : EvF Tryz.prog 5 xs (.d (.bool true)) := by
  obtain ⟨x0, ys, rfl, h0, h⟩ := oks_1 h
  obtain ⟨x1, ys, rfl, h1, h⟩ := oks_1 h
  obtain rfl := oks_0 h
  obtain ⟨a0, rfl, b0, k0⟩ := ok_ints h0
  obtain ⟨a1, rfl, k1⟩ := ok_int h1
  exact ok_thrumlaw12_PressDense a0 a1 true (PressDense_true a0 a1 (by omega) (fun x hx => InK_i64 (k0 x hx)))
theorem pressDense_own : ownKnob Tryz.prog.godebug = none := by kernel_rfl
theorem pressDense_laid : laidOutB Tryz.prog = true := by kernel_rfl
theorem pressDense_tys : valTys Tryz.prog Tryz.f5.params.toList = some [.lst 8 (.int .i64), .int .i64] := by kernel_rfl
theorem pressDense_rd : Tryz.f5.params.toList.all (fun t => Tryz.prog.readableRec t && decide (t < Tryz.prog.types.size)) = true := by kernel_rfl
theorem pressDense_lifted (os : Os) (started : os.Started) (H : Type) (enc : TypeId × Value → H) : ReturnsInHanded {} Tryz.checked os 5 .any (Rows.pressDenseSpec.pre6 enc Tryz.prog Tryz.f5 Rows.pressDenseRow.domain false) (Rows.pressDenseSpec.post enc Tryz.prog Tryz.f5 false true false false) := by
  refine lift_law (C := Tryz.checked) (tb := 4) (ys := [.lst 8 (.int .i64), .int .i64]) pressDense_own started (by kernel_rfl) Tryz.func5
    (ChangeSpec.witness6 (enc := enc) (C := Tryz.checked) false ⟨#[], #[.slice none 0 0, .int .i64 0], []⟩ 8 (by kernel_rfl) (by kernel_rfl) (by kernel_rfl) (by kernel_rfl)) rfl (by kernel_rfl) (by kernel_rfl) pressDense_laid pressDense_rd pressDense_tys ?_ pressDense_law
  intro ds hds
  rw [show Tryz.f5.params.toList.length = 2 from by kernel_rfl] at hds
  match ds, hds with
  | [d0, d1], _ => rfl
theorem pressDense_cl : Tryz.prog.closure 5 = [5, 9, 13, 30, 57, 59, 60, 58, 11, 33, 17, 34, 69, 70, 72, 71, 73, 47, 74, 75, 76, 129, 172, 198, 173, 199, 174, 175, 200, 176, 177, 202, 219, 190, 201, 210, 216, 230, 211, 225, 212, 226, 227, 213, 228, 229, 236, 214, 215, 217, 218, 130, 178, 180, 179, 203, 77, 78, 131, 181, 79, 80, 132, 81, 82, 83, 133, 134, 46, 104, 103, 135, 182, 183, 184, 204, 137, 136, 185, 205, 220, 231, 221, 84, 42, 100, 153, 154, 152, 189, 101, 155, 145, 138, 85, 86, 139, 87, 88, 140, 21, 45, 44, 141, 142, 89, 144, 143, 90, 91, 20, 19, 43, 102, 16, 10, 22] := by kernel_rfl
theorem pressDense_in : Rows.pressDenseRow.inPlace = Tryz.prog.inPlace 5 := by unfold Program.inPlace; rw [pressDense_cl]; kernel_rfl
theorem pressDense_un : Rows.pressDenseRow.unfollowed = Tryz.prog.unfollowed 5 := by unfold Program.unfollowed; rw [pressDense_cl]; kernel_rfl
theorem pressDense_re : Rows.pressDenseRow.recurses = Tryz.prog.recurses 5 := by unfold Program.recurses; rw [← pressDense_un]; rfl
theorem pressDense_na : Rows.pressDenseRow.named = Tryz.prog.varsNamed 5 := by unfold Program.varsNamed; rw [pressDense_cl]; kernel_rfl
theorem pressDense_mr : mapsRowed Tryz.prog = true := by kernel_rfl
theorem pressDense_jf : joinedFacts Tryz.prog 5 Tryz.f5 Rows.pressDenseSpec Rows.pressDenseRow = true := by unfold joinedFacts; rw [pressDense_laid, pressDense_mr, ← pressDense_in, ← pressDense_un, ← pressDense_re, ← pressDense_na]; kernel_rfl
theorem pressDense_over : Rows.pressDenseRow.holds Tryz.pinned (OpenSpec.ofChange Rows.pressDenseSpec) :=
  OpenClaim.holds_of_wide 5 Tryz.f5 rfl rfl rfl rfl rfl rfl rfl ⟨rfl, rfl, rfl, rfl, rfl⟩ rfl rfl rfl rfl rfl (by kernel_rfl) Tryz.func5 pressDense_jf
    (of_decide_eq_true (by kernel_rfl)) (by unfold Func.isWrapper; first | (rw [if_pos (by decide +kernel)]; kernel_rfl) | (rw [if_neg (by decide +kernel)]; exact ⟨rfl, rfl⟩))
    (fun os started H enc _ => pressDense_lifted os started H enc)
end Go.Proofs.YtdgdgfckcnjpfaaGreat.Abs
namespace Go.Proofs.YtdgdgfckcnjpfaaGreat
/-- The statement. -/
theorem pressDense_holds : Rows.PressDenseSaid := Abs.pressDense_over
#print axioms pressDense_holds
end Go.Proofs.YtdgdgfckcnjpfaaGreat
