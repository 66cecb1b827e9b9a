/- TopkMore: whatever comes in it answers true, and what came in reads as it did. Conditions: none. -/
import Derived.Test.YthhcgcaefjmekaaKW
import Derived.Test.YthhcgcaefjmekaaPH4
import Derived.Test.YthhcgcaefjmekaaRows
import Derived.Test.YthhcgcaefjmekaaAbs6
import Derived.JoinedOf
import Derived.OpenShut
namespace Go.Proofs.Ythhcgcaefjmekaa.Abs
open Go Go.RowKit Go.ChangeShapes Go.WideShapes Go.ChangeAt
set_option linter.unusedVariables false
set_option maxRecDepth 100000
theorem topkMore_law (xs : List D) (h : Ty.oks [.int .i64, .lst 8 (.int .i64)] xs) : EvF Try.prog 11 xs (.d (.bool true)) := by
  obtain ⟨x0, ys, rfl, h0, h⟩ := oks_1 h
  obtain ⟨x1, ys, rfl, h1, h⟩ := oks_1 h
  obtain rfl := oks_0 h
  obtain ⟨a0, rfl, k0⟩ := ok_int h0
  obtain ⟨a1, rfl, b1, k1⟩ := ok_ints h1
  exact ok_thrumlaw09_TopkMore a0 a1 true (TopkMore_true a0 a1 (InK_i64 k0) (fun x hx => InK_i64 (k1 x hx)))
theorem topkMore_own : ownKnob Try.prog.godebug = none := by kernel_rfl
theorem topkMore_laid : laidOutB Try.prog = true := by kernel_rfl
theorem topkMore_tys : valTys Try.prog Try.f11.params.toList = some [.int .i64, .lst 8 (.int .i64)] := by kernel_rfl
theorem topkMore_rd : Try.f11.params.toList.all (fun t => Try.prog.readableRec t && decide (t < Try.prog.types.size)) = true := by kernel_rfl
theorem topkMore_lifted (os : Os) (started : os.Started) (H : Type) (enc : TypeId × Value → H) : ReturnsInHanded {} Try.checked os 11 .any (Rows.topkMoreSpec.pre6 enc Try.prog Try.f11 Rows.topkMoreRow.domain false) (Rows.topkMoreSpec.post enc Try.prog Try.f11 false true false false) := by
  refine lift_law (C := Try.checked) (tb := 4) (ys := [.int .i64, .lst 8 (.int .i64)]) topkMore_own started (by kernel_rfl) Try.func11
    (ChangeSpec.witness6 (enc := enc) (C := Try.checked) false ⟨#[], #[.int .i64 0, .slice none 0 0], []⟩ 8 (by kernel_rfl) (by kernel_rfl) (by kernel_rfl) (by kernel_rfl)) rfl (by kernel_rfl) (by kernel_rfl) topkMore_laid topkMore_rd topkMore_tys ?_ topkMore_law
  intro ds hds
  rw [show Try.f11.params.toList.length = 2 from by kernel_rfl] at hds
  match ds, hds with
  | [d0, d1], _ => rfl
theorem topkMore_cl : Try.prog.closure 11 = [11, 50, 52, 99, 107, 100, 146, 101, 102, 147, 103, 104, 149, 186, 171, 148, 178, 150, 187, 179, 206, 180, 207, 208, 181, 209, 210, 220, 182, 183, 184, 185, 57, 53, 51, 54, 105, 151] := by kernel_rfl
theorem topkMore_in : Rows.topkMoreRow.inPlace = Try.prog.inPlace 11 := by unfold Program.inPlace; rw [topkMore_cl]; kernel_rfl
theorem topkMore_un : Rows.topkMoreRow.unfollowed = Try.prog.unfollowed 11 := by unfold Program.unfollowed; rw [topkMore_cl]; kernel_rfl
theorem topkMore_re : Rows.topkMoreRow.recurses = Try.prog.recurses 11 := by unfold Program.recurses; rw [← topkMore_un]; rfl
theorem topkMore_na : Rows.topkMoreRow.named = Try.prog.varsNamed 11 := by unfold Program.varsNamed; rw [topkMore_cl]; kernel_rfl
theorem topkMore_mr : mapsRowed Try.prog = true := by kernel_rfl
theorem topkMore_jf : joinedFacts Try.prog 11 Try.f11 Rows.topkMoreSpec Rows.topkMoreRow = true := by unfold joinedFacts; rw [topkMore_laid, topkMore_mr, ← topkMore_in, ← topkMore_un, ← topkMore_re, ← topkMore_na]; kernel_rfl
theorem topkMore_over : Rows.topkMoreRow.holds Try.pinned (OpenSpec.ofChange Rows.topkMoreSpec) :=
  OpenClaim.holds_of_wide 11 Try.f11 rfl rfl rfl rfl rfl rfl rfl ⟨rfl, rfl, rfl, rfl, rfl⟩ rfl rfl rfl rfl rfl (by kernel_rfl) Try.func11 topkMore_jf
    (of_decide_eq_true (by kernel_rfl)) (by unfold Func.isWrapper; first | (rw [if_pos (by decide +kernel)]; kernel_rfl) | (rw [if_neg (by decide +kernel)]; exact ⟨rfl, rfl⟩))
    (fun os started H enc _ => topkMore_lifted os started H enc)
end Go.Proofs.Ythhcgcaefjmekaa.Abs
namespace Go.Proofs.Ythhcgcaefjmekaa
/-- The statement. -/
theorem topkMore_holds : Rows.TopkMoreSaid := Abs.topkMore_over
#print axioms topkMore_holds
end Go.Proofs.Ythhcgcaefjmekaa
