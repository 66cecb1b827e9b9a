/- PressAgain: whatever comes in it answers true, and what came in reads as it did. Conditions: none. -/
import Derived.Test.YtdgdgfckcnjpfaaGreatDW
import Derived.Test.YtdgdgfckcnjpfaaGreatPV9
import Derived.Test.YtdgdgfckcnjpfaaGreatRows
import Derived.Test.YtdgdgfckcnjpfaaGreatAbs6
import Derived.JoinedOf
import Derived.OpenShut
namespace Go.Proofs.YtdgdgfckcnjpfaaGreat.Abs
open Go Go.RowKit Go.ChangeShapes Go.WideShapes Go.ChangeAt
set_option linter.unusedVariables false
set_option maxRecDepth 100000
theorem pressAgain_law (xs : List D) (h : Ty.oks [.agg [.int .i64, .int .i64, .int .i64], .lst 8 (.int .i64), .int .u64] xs) : EvF Tryz.prog 6 xs (.d (.bool true)) := by
  obtain ⟨x0, ys, rfl, h0, h⟩ := oks_1 h
  obtain ⟨x1, ys, rfl, h1, h⟩ := oks_1 h
  obtain ⟨x2, ys, rfl, h2, h⟩ := oks_1 h
  obtain rfl := oks_0 h
  simp only [Ty.ok] at h0
  obtain ⟨c0, rfl, h0⟩ := h0
  obtain ⟨x0_0, ys, rfl, h0_0, h0⟩ := oks_1 h0
  obtain ⟨x0_1, ys, rfl, h0_1, h0⟩ := oks_1 h0
  obtain ⟨x0_2, ys, rfl, h0_2, h0⟩ := oks_1 h0
  obtain rfl := oks_0 h0
  obtain ⟨a0_0, rfl, k0_0⟩ := ok_int h0_0
  obtain ⟨a0_1, rfl, k0_1⟩ := ok_int h0_1
  obtain ⟨a0_2, rfl, k0_2⟩ := ok_int h0_2
  obtain ⟨a1, rfl, b1, k1⟩ := ok_ints h1
  obtain ⟨a2, rfl, k2⟩ := ok_int h2
  exact ok_thrumlaw12_PressAgain ⟨a0_0, a0_1, a0_2⟩ a1 a2 true (PressAgain_true _ a1 a2 (by omega) (fun x hx => InK_i64 (k1 x hx)))
theorem pressAgain_own : ownKnob Tryz.prog.godebug = none := by kernel_rfl
theorem pressAgain_laid : laidOutB Tryz.prog = true := by kernel_rfl
theorem pressAgain_tys : valTys Tryz.prog Tryz.f6.params.toList = some [.agg [.int .i64, .int .i64, .int .i64], .lst 8 (.int .i64), .int .u64] := by kernel_rfl
theorem pressAgain_rd : Tryz.f6.params.toList.all (fun t => Tryz.prog.readableRec t && decide (t < Tryz.prog.types.size)) = true := by kernel_rfl
theorem pressAgain_lifted (os : Os) (started : os.Started) (H : Type) (enc : TypeId × Value → H) : ReturnsInHanded {} Tryz.checked os 6 .any (Rows.pressAgainSpec.pre6 enc Tryz.prog Tryz.f6 Rows.pressAgainRow.domain false) (Rows.pressAgainSpec.post enc Tryz.prog Tryz.f6 false true false false) := by
  refine lift_law (C := Tryz.checked) (tb := 4) (ys := [.agg [.int .i64, .int .i64, .int .i64], .lst 8 (.int .i64), .int .u64]) pressAgain_own started (by kernel_rfl) Tryz.func6
    (ChangeSpec.witness6 (enc := enc) (C := Tryz.checked) false ⟨#[], #[.agg #[.int .i64 0, .int .i64 0, .int .i64 0], .slice none 0 0, .int .u64 0], []⟩ 8 (by kernel_rfl) (by kernel_rfl) (by kernel_rfl) (by kernel_rfl)) rfl (by kernel_rfl) (by kernel_rfl) pressAgain_laid pressAgain_rd pressAgain_tys ?_ pressAgain_law
  intro ds hds
  rw [show Tryz.f6.params.toList.length = 3 from by kernel_rfl] at hds
  match ds, hds with
  | [d0, d1, d2], _ => rfl
theorem pressAgain_cl : Tryz.prog.closure 6 = [6, 9, 13, 30, 57, 59, 60, 58, 11, 33, 17, 34, 69, 70, 72, 71, 73, 47, 74, 75, 76, 129, 172, 198, 173, 199, 174, 175, 200, 176, 177, 202, 219, 190, 201, 210, 216, 230, 211, 225, 212, 226, 227, 213, 228, 229, 236, 214, 215, 217, 218, 130, 178, 180, 179, 203, 77, 78, 131, 181, 79, 80, 132, 81, 82, 83, 133, 134, 46, 104, 103, 135, 182, 183, 184, 204, 137, 136, 185, 205, 220, 231, 221, 84, 42, 100, 153, 154, 152, 189, 101, 155, 145, 138, 85, 86, 139, 87, 88, 140, 21, 45, 44, 141, 142, 89, 144, 143, 90, 91, 20, 19, 43, 102, 16, 10, 22] := by kernel_rfl
theorem pressAgain_in : Rows.pressAgainRow.inPlace = Tryz.prog.inPlace 6 := by unfold Program.inPlace; rw [pressAgain_cl]; kernel_rfl
theorem pressAgain_un : Rows.pressAgainRow.unfollowed = Tryz.prog.unfollowed 6 := by unfold Program.unfollowed; rw [pressAgain_cl]; kernel_rfl
theorem pressAgain_re : Rows.pressAgainRow.recurses = Tryz.prog.recurses 6 := by unfold Program.recurses; rw [← pressAgain_un]; rfl
theorem pressAgain_na : Rows.pressAgainRow.named = Tryz.prog.varsNamed 6 := by unfold Program.varsNamed; rw [pressAgain_cl]; kernel_rfl
theorem pressAgain_mr : mapsRowed Tryz.prog = true := by kernel_rfl
theorem pressAgain_jf : joinedFacts Tryz.prog 6 Tryz.f6 Rows.pressAgainSpec Rows.pressAgainRow = true := by unfold joinedFacts; rw [pressAgain_laid, pressAgain_mr, ← pressAgain_in, ← pressAgain_un, ← pressAgain_re, ← pressAgain_na]; kernel_rfl
theorem pressAgain_over : Rows.pressAgainRow.holds Tryz.pinned (OpenSpec.ofChange Rows.pressAgainSpec) :=
  OpenClaim.holds_of_wide 6 Tryz.f6 rfl rfl rfl rfl rfl rfl rfl ⟨rfl, rfl, rfl, rfl, rfl⟩ rfl rfl rfl rfl rfl (by kernel_rfl) Tryz.func6 pressAgain_jf
    (of_decide_eq_true (by kernel_rfl)) (by unfold Func.isWrapper; first | (rw [if_pos (by decide +kernel)]; kernel_rfl) | (rw [if_neg (by decide +kernel)]; exact ⟨rfl, rfl⟩))
    (fun os started H enc _ => pressAgain_lifted os started H enc)
end Go.Proofs.YtdgdgfckcnjpfaaGreat.Abs
namespace Go.Proofs.YtdgdgfckcnjpfaaGreat
/-- The statement. -/
theorem pressAgain_holds : Rows.PressAgainSaid := Abs.pressAgain_over
#print axioms pressAgain_holds
end Go.Proofs.YtdgdgfckcnjpfaaGreat
