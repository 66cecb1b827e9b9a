/- TopkPicks: whatever comes in it answers true, and what came in reads as it did. Conditions: none. -/
import Derived.Test.YtelobmiooldoaaaTW
import Derived.Test.YtelobmiooldoaaaPH11
import Derived.Test.YtelobmiooldoaaaRows
import Derived.Test.YtelobmiooldoaaaAbs6
import Derived.JoinedOf
import Derived.OpenShut
namespace Go.Proofs.Ytelobmiooldoaaa.Abs
open Go Go.RowKit Go.ChangeShapes Go.WideShapes Go.ChangeAt
set_option linter.unusedVariables false
set_option maxRecDepth 100000
theorem topkPicks_law (xs : List D) (h : Ty.oks [.int .i64, .lst 8 (.int .i64), .agg [.int .i64, .int .i64, .lst 8 (.int .i64), .lst 8 (.int .i64), .int .i64, .int .i64, .lst 8 (.int .u64), .lst 1 (.bool)], .lst 8 (.int .i64)] xs) : EvF Try.prog 3 xs (.d (.bool true)) := by
  obtain ⟨x0, ys, rfl, h0, h⟩ := oks_1 h
  obtain ⟨x1, ys, rfl, h1, h⟩ := oks_1 h
  obtain ⟨x2, ys, rfl, h2, h⟩ := oks_1 h
  obtain ⟨x3, ys, rfl, h3, h⟩ := oks_1 h
  obtain rfl := oks_0 h
  obtain ⟨a0, rfl, k0⟩ := ok_int h0
  obtain ⟨a1, rfl, b1, k1⟩ := ok_ints h1
  simp only [Ty.ok] at h2
  obtain ⟨c2, rfl, h2⟩ := h2
  obtain ⟨x2_0, ys, rfl, h2_0, h2⟩ := oks_1 h2
  obtain ⟨x2_1, ys, rfl, h2_1, h2⟩ := oks_1 h2
  obtain ⟨x2_2, ys, rfl, h2_2, h2⟩ := oks_1 h2
  obtain ⟨x2_3, ys, rfl, h2_3, h2⟩ := oks_1 h2
  obtain ⟨x2_4, ys, rfl, h2_4, h2⟩ := oks_1 h2
  obtain ⟨x2_5, ys, rfl, h2_5, h2⟩ := oks_1 h2
  obtain ⟨x2_6, ys, rfl, h2_6, h2⟩ := oks_1 h2
  obtain ⟨x2_7, ys, rfl, h2_7, h2⟩ := oks_1 h2
  obtain rfl := oks_0 h2
  obtain ⟨a2_0, rfl, k2_0⟩ := ok_int h2_0
  obtain ⟨a2_1, rfl, k2_1⟩ := ok_int h2_1
  obtain ⟨a2_2, rfl, b2_2, k2_2⟩ := ok_ints h2_2
  obtain ⟨a2_3, rfl, b2_3, k2_3⟩ := ok_ints h2_3
  obtain ⟨a2_4, rfl, k2_4⟩ := ok_int h2_4
  obtain ⟨a2_5, rfl, k2_5⟩ := ok_int h2_5
  obtain ⟨a2_6, rfl, b2_6, k2_6⟩ := ok_ints h2_6
  obtain ⟨a2_7, rfl, b2_7, k2_7⟩ := ok_bools h2_7
  obtain ⟨a3, rfl, b3, k3⟩ := ok_ints h3
  exact ok_thrumlaw09_TopkPicks a0 a1 ⟨a2_0, a2_1, a2_2, a2_3, a2_4, a2_5, a2_6, a2_7⟩ a3 true (TopkPicks_true a0 a1 _ a3 (fun x hx => InK_i64 (k1 x hx)))
theorem topkPicks_own : ownKnob Try.prog.godebug = none := by kernel_rfl
theorem topkPicks_laid : laidOutB Try.prog = true := by kernel_rfl
theorem topkPicks_tys : valTys Try.prog Try.f3.params.toList = some [.int .i64, .lst 8 (.int .i64), .agg [.int .i64, .int .i64, .lst 8 (.int .i64), .lst 8 (.int .i64), .int .i64, .int .i64, .lst 8 (.int .u64), .lst 1 (.bool)], .lst 8 (.int .i64)] := by kernel_rfl
theorem topkPicks_rd : Try.f3.params.toList.all (fun t => Try.prog.readableRec t && decide (t < Try.prog.types.size)) = true := by kernel_rfl
theorem topkPicks_lifted (os : Os) (started : os.Started) (H : Type) (enc : TypeId × Value → H) : ReturnsInHanded {} Try.checked os 3 .any (Rows.topkPicksSpec.pre6 enc Try.prog Try.f3 Rows.topkPicksRow.domain false) (Rows.topkPicksSpec.post enc Try.prog Try.f3 false true false false) := by
  refine lift_law (C := Try.checked) (tb := 4) (ys := [.int .i64, .lst 8 (.int .i64), .agg [.int .i64, .int .i64, .lst 8 (.int .i64), .lst 8 (.int .i64), .int .i64, .int .i64, .lst 8 (.int .u64), .lst 1 (.bool)], .lst 8 (.int .i64)]) topkPicks_own started (by kernel_rfl) Try.func3
    (ChangeSpec.witness6 (enc := enc) (C := Try.checked) false ⟨#[], #[.int .i64 0, .slice none 0 0, .agg #[.int .i64 0, .int .i64 0, .slice none 0 0, .slice none 0 0, .int .i64 0, .int .i64 0, .slice none 0 0, .slice none 0 0], .slice none 0 0], []⟩ 8 (by kernel_rfl) (by kernel_rfl) (by kernel_rfl) (by kernel_rfl)) rfl (by kernel_rfl) (by kernel_rfl) topkPicks_laid topkPicks_rd topkPicks_tys ?_ topkPicks_law
  intro ds hds
  rw [show Try.f3.params.toList.length = 4 from by kernel_rfl] at hds
  match ds, hds with
  | [d0, d1, d2, d3], _ => rfl
theorem topkPicks_cl : Try.prog.closure 3 = [3, 7, 10, 46, 57, 47, 82, 48, 49, 83, 50, 51, 85, 118, 119, 84, 110, 108, 129, 111, 136, 112, 137, 138, 113, 139, 140, 146, 114, 115, 116, 117, 16, 18, 8, 9, 11, 13, 55, 58, 52, 86, 12, 53, 87, 120, 121, 141, 122, 123, 142, 143, 147, 124, 125, 126, 127, 54, 89, 128, 90, 88, 14, 56, 91, 93, 92, 130, 15, 17, 19, 59, 60, 61, 20, 62, 63, 21] := by kernel_rfl
theorem topkPicks_in : Rows.topkPicksRow.inPlace = Try.prog.inPlace 3 := by unfold Program.inPlace; rw [topkPicks_cl]; kernel_rfl
theorem topkPicks_un : Rows.topkPicksRow.unfollowed = Try.prog.unfollowed 3 := by unfold Program.unfollowed; rw [topkPicks_cl]; kernel_rfl
theorem topkPicks_re : Rows.topkPicksRow.recurses = Try.prog.recurses 3 := by unfold Program.recurses; rw [← topkPicks_un]; rfl
theorem topkPicks_na : Rows.topkPicksRow.named = Try.prog.varsNamed 3 := by unfold Program.varsNamed; rw [topkPicks_cl]; kernel_rfl
theorem topkPicks_mr : mapsRowed Try.prog = true := by kernel_rfl
theorem topkPicks_jf : joinedFacts Try.prog 3 Try.f3 Rows.topkPicksSpec Rows.topkPicksRow = true := by unfold joinedFacts; rw [topkPicks_laid, topkPicks_mr, ← topkPicks_in, ← topkPicks_un, ← topkPicks_re, ← topkPicks_na]; kernel_rfl
theorem topkPicks_over : Rows.topkPicksRow.holds Try.pinned (OpenSpec.ofChange Rows.topkPicksSpec) :=
  OpenClaim.holds_of_wide 3 Try.f3 rfl rfl rfl rfl rfl rfl rfl ⟨rfl, rfl, rfl, rfl, rfl⟩ rfl rfl rfl rfl rfl (by kernel_rfl) Try.func3 topkPicks_jf
    (of_decide_eq_true (by kernel_rfl)) (by unfold Func.isWrapper; first | (rw [if_pos (by decide +kernel)]; kernel_rfl) | (rw [if_neg (by decide +kernel)]; exact ⟨rfl, rfl⟩))
    (fun os started H enc _ => topkPicks_lifted os started H enc)
end Go.Proofs.Ytelobmiooldoaaa.Abs
namespace Go.Proofs.Ytelobmiooldoaaa
/-- The statement. -/
theorem topkPicks_holds : Rows.TopkPicksSaid := Abs.topkPicks_over
#print axioms topkPicks_holds
end Go.Proofs.Ytelobmiooldoaaa
