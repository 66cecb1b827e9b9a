/- FrameWrites: whatever comes in it answers true, and what came in reads as it did. Conditions: none. -/
import Derived.Test.YtelobmiooldoaaaGreatGW2
import Derived.Test.YtelobmiooldoaaaGreatPR3
import Derived.Test.YtelobmiooldoaaaGreatRows
import Derived.Test.YtelobmiooldoaaaGreatAbs6
import Derived.JoinedOf
import Derived.OpenShut
namespace Go.Proofs.YtelobmiooldoaaaGreat.Abs
open Go Go.RowKit Go.ChangeShapes Go.WideShapes Go.ChangeAt
set_option linter.unusedVariables false
set_option maxRecDepth 100000
theorem frameWrites_law (xs : List D) (h : Ty.oks [.agg [.int .i64, .int .i64, .int .i64, .int .i64, .int .i64, .lst 8 (.int .i64), .lst 8 (.int .i64), .int .i64, .int .i64, .lst 8 (.int .u64), .lst 1 (.bool)], .agg [.int .i64, .int .i64, .int .i64, .int .i64, .int .i64, .lst 8 (.int .i64), .lst 8 (.int .i64), .int .i64, .int .i64, .lst 8 (.int .u64), .lst 1 (.bool)]] xs) : EvF Tryz.prog 4 xs (.d (.bool true)) := by
  obtain ⟨x0, ys, rfl, h0, h⟩ := oks_1 h
  obtain ⟨x1, ys, rfl, h1, h⟩ := oks_1 h
  obtain rfl := oks_0 h
  simp only [Ty.ok] at h0
  obtain ⟨c0, rfl, h0⟩ := h0
  obtain ⟨x0_0, ys, rfl, h0_0, h0⟩ := oks_1 h0
  obtain ⟨x0_1, ys, rfl, h0_1, h0⟩ := oks_1 h0
  obtain ⟨x0_2, ys, rfl, h0_2, h0⟩ := oks_1 h0
  obtain ⟨x0_3, ys, rfl, h0_3, h0⟩ := oks_1 h0
  obtain ⟨x0_4, ys, rfl, h0_4, h0⟩ := oks_1 h0
  obtain ⟨x0_5, ys, rfl, h0_5, h0⟩ := oks_1 h0
  obtain ⟨x0_6, ys, rfl, h0_6, h0⟩ := oks_1 h0
  obtain ⟨x0_7, ys, rfl, h0_7, h0⟩ := oks_1 h0
  obtain ⟨x0_8, ys, rfl, h0_8, h0⟩ := oks_1 h0
  obtain ⟨x0_9, ys, rfl, h0_9, h0⟩ := oks_1 h0
  obtain ⟨x0_10, ys, rfl, h0_10, h0⟩ := oks_1 h0
  obtain rfl := oks_0 h0
  obtain ⟨a0_0, rfl, k0_0⟩ := ok_int h0_0
  obtain ⟨a0_1, rfl, k0_1⟩ := ok_int h0_1
  obtain ⟨a0_2, rfl, k0_2⟩ := ok_int h0_2
  obtain ⟨a0_3, rfl, k0_3⟩ := ok_int h0_3
  obtain ⟨a0_4, rfl, k0_4⟩ := ok_int h0_4
  obtain ⟨a0_5, rfl, b0_5, k0_5⟩ := ok_ints h0_5
  obtain ⟨a0_6, rfl, b0_6, k0_6⟩ := ok_ints h0_6
  obtain ⟨a0_7, rfl, k0_7⟩ := ok_int h0_7
  obtain ⟨a0_8, rfl, k0_8⟩ := ok_int h0_8
  obtain ⟨a0_9, rfl, b0_9, k0_9⟩ := ok_ints h0_9
  obtain ⟨a0_10, rfl, b0_10, k0_10⟩ := ok_bools h0_10
  simp only [Ty.ok] at h1
  obtain ⟨c1, rfl, h1⟩ := h1
  obtain ⟨x1_0, ys, rfl, h1_0, h1⟩ := oks_1 h1
  obtain ⟨x1_1, ys, rfl, h1_1, h1⟩ := oks_1 h1
  obtain ⟨x1_2, ys, rfl, h1_2, h1⟩ := oks_1 h1
  obtain ⟨x1_3, ys, rfl, h1_3, h1⟩ := oks_1 h1
  obtain ⟨x1_4, ys, rfl, h1_4, h1⟩ := oks_1 h1
  obtain ⟨x1_5, ys, rfl, h1_5, h1⟩ := oks_1 h1
  obtain ⟨x1_6, ys, rfl, h1_6, h1⟩ := oks_1 h1
  obtain ⟨x1_7, ys, rfl, h1_7, h1⟩ := oks_1 h1
  obtain ⟨x1_8, ys, rfl, h1_8, h1⟩ := oks_1 h1
  obtain ⟨x1_9, ys, rfl, h1_9, h1⟩ := oks_1 h1
  obtain ⟨x1_10, ys, rfl, h1_10, h1⟩ := oks_1 h1
  obtain rfl := oks_0 h1
  obtain ⟨a1_0, rfl, k1_0⟩ := ok_int h1_0
  obtain ⟨a1_1, rfl, k1_1⟩ := ok_int h1_1
  obtain ⟨a1_2, rfl, k1_2⟩ := ok_int h1_2
  obtain ⟨a1_3, rfl, k1_3⟩ := ok_int h1_3
  obtain ⟨a1_4, rfl, k1_4⟩ := ok_int h1_4
  obtain ⟨a1_5, rfl, b1_5, k1_5⟩ := ok_ints h1_5
  obtain ⟨a1_6, rfl, b1_6, k1_6⟩ := ok_ints h1_6
  obtain ⟨a1_7, rfl, k1_7⟩ := ok_int h1_7
  obtain ⟨a1_8, rfl, k1_8⟩ := ok_int h1_8
  obtain ⟨a1_9, rfl, b1_9, k1_9⟩ := ok_ints h1_9
  obtain ⟨a1_10, rfl, b1_10, k1_10⟩ := ok_bools h1_10
  exact ok_thrumlaw07_FrameWrites ⟨a0_0, a0_1, a0_2, ⟨a0_3, a0_4, a0_5, a0_6, a0_7, a0_8, a0_9, a0_10⟩⟩ ⟨a1_0, a1_1, a1_2, ⟨a1_3, a1_4, a1_5, a1_6, a1_7, a1_8, a1_9, a1_10⟩⟩ true (FrameWrites_true _ _ ⟨⟨by simp only; omega, by simp only; omega, by simp only; omega, by simp only; omega, fun n hn => InK_u64 (k0_9 n hn)⟩, fun n hn => InK_i64 (k0_6 n hn), InK_i64 k0_7⟩)
theorem frameWrites_own : ownKnob Tryz.prog.godebug = none := by kernel_rfl
theorem frameWrites_laid : laidOutB Tryz.prog = true := by kernel_rfl
theorem frameWrites_tys : valTys Tryz.prog Tryz.f4.params.toList = some [.agg [.int .i64, .int .i64, .int .i64, .int .i64, .int .i64, .lst 8 (.int .i64), .lst 8 (.int .i64), .int .i64, .int .i64, .lst 8 (.int .u64), .lst 1 (.bool)], .agg [.int .i64, .int .i64, .int .i64, .int .i64, .int .i64, .lst 8 (.int .i64), .lst 8 (.int .i64), .int .i64, .int .i64, .lst 8 (.int .u64), .lst 1 (.bool)]] := by kernel_rfl
theorem frameWrites_rd : Tryz.f4.params.toList.all (fun t => Tryz.prog.readableRec t && decide (t < Tryz.prog.types.size)) = true := by kernel_rfl
theorem frameWrites_lifted (os : Os) (started : os.Started) (H : Type) (enc : TypeId × Value → H) : ReturnsInHanded {} Tryz.checked os 4 .any (Rows.frameWritesSpec.pre6 enc Tryz.prog Tryz.f4 Rows.frameWritesRow.domain false) (Rows.frameWritesSpec.post enc Tryz.prog Tryz.f4 false true false false) := by
  refine lift_law (C := Tryz.checked) (tb := 4) (ys := [.agg [.int .i64, .int .i64, .int .i64, .int .i64, .int .i64, .lst 8 (.int .i64), .lst 8 (.int .i64), .int .i64, .int .i64, .lst 8 (.int .u64), .lst 1 (.bool)], .agg [.int .i64, .int .i64, .int .i64, .int .i64, .int .i64, .lst 8 (.int .i64), .lst 8 (.int .i64), .int .i64, .int .i64, .lst 8 (.int .u64), .lst 1 (.bool)]]) frameWrites_own started (by kernel_rfl) Tryz.func4
    (ChangeSpec.witness6 (enc := enc) (C := Tryz.checked) false ⟨#[], #[.agg #[.int .i64 0, .int .i64 0, .int .i64 0, .int .i64 0, .int .i64 0, .slice none 0 0, .slice none 0 0, .int .i64 0, .int .i64 0, .slice none 0 0, .slice none 0 0], .agg #[.int .i64 0, .int .i64 0, .int .i64 0, .int .i64 0, .int .i64 0, .slice none 0 0, .slice none 0 0, .int .i64 0, .int .i64 0, .slice none 0 0, .slice none 0 0]], []⟩ 8 (by kernel_rfl) (by kernel_rfl) (by kernel_rfl) (by kernel_rfl)) rfl (by kernel_rfl) (by kernel_rfl) frameWrites_laid frameWrites_rd frameWrites_tys ?_ frameWrites_law
  intro ds hds
  rw [show Tryz.f4.params.toList.length = 2 from by kernel_rfl] at hds
  match ds, hds with
  | [d0, d1], _ => rfl
theorem frameWrites_cl : Tryz.prog.closure 4 = [4, 14, 27, 9, 23, 12, 43, 83, 118, 40, 85, 86, 120, 84, 119, 44, 87, 88, 89, 90, 34, 64, 73, 17, 50, 93, 122, 51, 95, 94, 52, 96, 116, 139, 123, 79, 141, 97, 124, 142, 152, 53, 30, 65, 108, 128, 145, 144, 153, 156, 154, 157, 160, 164, 165, 166, 167, 168, 172, 173, 174, 175, 176, 170, 158, 161, 169, 171, 177, 178, 159, 163, 162, 21, 15, 16, 24, 22, 58, 101, 59, 13, 33, 45, 46, 47, 48, 91, 18, 54, 98, 55, 56, 99, 125, 100, 57, 49, 92, 121, 19, 20, 25, 26, 28] := by kernel_rfl
theorem frameWrites_in : Rows.frameWritesRow.inPlace = Tryz.prog.inPlace 4 := by unfold Program.inPlace; rw [frameWrites_cl]; kernel_rfl
theorem frameWrites_un : Rows.frameWritesRow.unfollowed = Tryz.prog.unfollowed 4 := by unfold Program.unfollowed; rw [frameWrites_cl]; kernel_rfl
theorem frameWrites_re : Rows.frameWritesRow.recurses = Tryz.prog.recurses 4 := by unfold Program.recurses; rw [← frameWrites_un]; rfl
theorem frameWrites_na : Rows.frameWritesRow.named = Tryz.prog.varsNamed 4 := by unfold Program.varsNamed; rw [frameWrites_cl]; kernel_rfl
theorem frameWrites_mr : mapsRowed Tryz.prog = true := by kernel_rfl
theorem frameWrites_jf : joinedFacts Tryz.prog 4 Tryz.f4 Rows.frameWritesSpec Rows.frameWritesRow = true := by unfold joinedFacts; rw [frameWrites_laid, frameWrites_mr, ← frameWrites_in, ← frameWrites_un, ← frameWrites_re, ← frameWrites_na]; kernel_rfl
theorem frameWrites_over : Rows.frameWritesRow.holds Tryz.pinned (OpenSpec.ofChange Rows.frameWritesSpec) :=
  OpenClaim.holds_of_wide 4 Tryz.f4 rfl rfl rfl rfl rfl rfl rfl ⟨rfl, rfl, rfl, rfl, rfl⟩ rfl rfl rfl rfl rfl (by kernel_rfl) Tryz.func4 frameWrites_jf
    (of_decide_eq_true (by kernel_rfl)) (by unfold Func.isWrapper; first | (rw [if_pos (by decide +kernel)]; kernel_rfl) | (rw [if_neg (by decide +kernel)]; exact ⟨rfl, rfl⟩))
    (fun os started H enc _ => frameWrites_lifted os started H enc)
end Go.Proofs.YtelobmiooldoaaaGreat.Abs
namespace Go.Proofs.YtelobmiooldoaaaGreat
/-- The statement. -/
theorem frameWrites_holds : Rows.FrameWritesSaid := Abs.frameWrites_over
#print axioms frameWrites_holds
end Go.Proofs.YtelobmiooldoaaaGreat
