/- TopkGreatest: whatever comes in it answers true, and what came in reads as it did. Conditions: none. -/
import Derived.Test.YthhcgcaefjmekaaKW
import Derived.Test.YthhcgcaefjmekaaPH5
import Derived.Test.YthhcgcaefjmekaaRows
import Derived.Test.YthhcgcaefjmekaaAbs6
import Derived.JoinedOf
import Derived.OpenShut
namespace Go.Proofs.Ythhcgcaefjmekaa.Abs
open Go Go.RowKit Go.ChangeShapes Go.WideShapes Go.ChangeAt
set_option linter.unusedVariables false
set_option maxRecDepth 100000
theorem topkGreatest_law (xs : List D) (h : Ty.oks [.int .i64, .lst 8 (.int .i64)] xs) : EvF Try.prog 12 xs (.d (.bool true)) := by
  obtain ⟨x0, ys, rfl, h0, h⟩ := oks_1 h
  obtain ⟨x1, ys, rfl, h1, h⟩ := oks_1 h
  obtain rfl := oks_0 h
  obtain ⟨a0, rfl, k0⟩ := ok_int h0
  obtain ⟨a1, rfl, b1, k1⟩ := ok_ints h1
  exact ok_thrumlaw09_TopkGreatest a0 a1 true (TopkGreatest_true a0 a1 (fun x hx => InK_i64 (k1 x hx)))
theorem topkGreatest_own : ownKnob Try.prog.godebug = none := by kernel_rfl
theorem topkGreatest_laid : laidOutB Try.prog = true := by kernel_rfl
theorem topkGreatest_tys : valTys Try.prog Try.f12.params.toList = some [.int .i64, .lst 8 (.int .i64)] := by kernel_rfl
theorem topkGreatest_rd : Try.f12.params.toList.all (fun t => Try.prog.readableRec t && decide (t < Try.prog.types.size)) = true := by kernel_rfl
theorem topkGreatest_lifted (os : Os) (started : os.Started) (H : Type) (enc : TypeId × Value → H) : ReturnsInHanded {} Try.checked os 12 .any (Rows.topkGreatestSpec.pre6 enc Try.prog Try.f12 Rows.topkGreatestRow.domain false) (Rows.topkGreatestSpec.post enc Try.prog Try.f12 false true false false) := by
  refine lift_law (C := Try.checked) (tb := 4) (ys := [.int .i64, .lst 8 (.int .i64)]) topkGreatest_own started (by kernel_rfl) Try.func12
    (ChangeSpec.witness6 (enc := enc) (C := Try.checked) false ⟨#[], #[.int .i64 0, .slice none 0 0], []⟩ 8 (by kernel_rfl) (by kernel_rfl) (by kernel_rfl) (by kernel_rfl)) rfl (by kernel_rfl) (by kernel_rfl) topkGreatest_laid topkGreatest_rd topkGreatest_tys ?_ topkGreatest_law
  intro ds hds
  rw [show Try.f12.params.toList.length = 2 from by kernel_rfl] at hds
  match ds, hds with
  | [d0, d1], _ => rfl
theorem topkGreatest_cl : Try.prog.closure 12 = [12, 50, 52, 99, 107, 100, 146, 101, 102, 147, 103, 104, 149, 186, 171, 148, 178, 150, 187, 179, 206, 180, 207, 208, 181, 209, 210, 220, 182, 183, 184, 185, 57, 53, 51, 55, 106, 152, 153, 56, 58] := by kernel_rfl
theorem topkGreatest_in : Rows.topkGreatestRow.inPlace = Try.prog.inPlace 12 := by unfold Program.inPlace; rw [topkGreatest_cl]; kernel_rfl
theorem topkGreatest_un : Rows.topkGreatestRow.unfollowed = Try.prog.unfollowed 12 := by unfold Program.unfollowed; rw [topkGreatest_cl]; kernel_rfl
theorem topkGreatest_re : Rows.topkGreatestRow.recurses = Try.prog.recurses 12 := by unfold Program.recurses; rw [← topkGreatest_un]; rfl
theorem topkGreatest_na : Rows.topkGreatestRow.named = Try.prog.varsNamed 12 := by unfold Program.varsNamed; rw [topkGreatest_cl]; kernel_rfl
theorem topkGreatest_mr : mapsRowed Try.prog = true := by kernel_rfl
theorem topkGreatest_jf : joinedFacts Try.prog 12 Try.f12 Rows.topkGreatestSpec Rows.topkGreatestRow = true := by unfold joinedFacts; rw [topkGreatest_laid, topkGreatest_mr, ← topkGreatest_in, ← topkGreatest_un, ← topkGreatest_re, ← topkGreatest_na]; kernel_rfl
theorem topkGreatest_over : Rows.topkGreatestRow.holds Try.pinned (OpenSpec.ofChange Rows.topkGreatestSpec) :=
  OpenClaim.holds_of_wide 12 Try.f12 rfl rfl rfl rfl rfl rfl rfl ⟨rfl, rfl, rfl, rfl, rfl⟩ rfl rfl rfl rfl rfl (by kernel_rfl) Try.func12 topkGreatest_jf
    (of_decide_eq_true (by kernel_rfl)) (by unfold Func.isWrapper; first | (rw [if_pos (by decide +kernel)]; kernel_rfl) | (rw [if_neg (by decide +kernel)]; exact ⟨rfl, rfl⟩))
    (fun os started H enc _ => topkGreatest_lifted os started H enc)
end Go.Proofs.Ythhcgcaefjmekaa.Abs
namespace Go.Proofs.Ythhcgcaefjmekaa
/-- The statement. -/
theorem topkGreatest_holds : Rows.TopkGreatestSaid := Abs.topkGreatest_over
#print axioms topkGreatest_holds
end Go.Proofs.Ythhcgcaefjmekaa
