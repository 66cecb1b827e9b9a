/- TopkOrders: whatever comes in it answers true, and what came in reads as it did. Conditions: none. -/
import Derived.Test.YthhcgcaefjmekaaTW
import Derived.Test.YthhcgcaefjmekaaPH7
import Derived.Test.YthhcgcaefjmekaaRows
import Derived.Test.YthhcgcaefjmekaaAbs6
import Derived.JoinedOf
import Derived.OpenShut
namespace Go.Proofs.Ythhcgcaefjmekaa.Abs
open Go Go.RowKit Go.ChangeShapes Go.WideShapes Go.ChangeAt
set_option linter.unusedVariables false
set_option maxRecDepth 100000
theorem topkOrders_law (xs : List D) (h : Ty.oks [.int .i64, .lst 8 (.int .i64)] xs) : EvF Try.prog 17 xs (.d (.bool true)) := by
  obtain ⟨x0, ys, rfl, h0, h⟩ := oks_1 h
  obtain ⟨x1, ys, rfl, h1, h⟩ := oks_1 h
  obtain rfl := oks_0 h
  obtain ⟨a0, rfl, k0⟩ := ok_int h0
  obtain ⟨a1, rfl, b1, k1⟩ := ok_ints h1
  exact ok_thrumlaw09_TopkOrders a0 a1 true (TopkOrders_true a0 a1 (fun x hx => InK_i64 (k1 x hx)))
theorem topkOrders_own : ownKnob Try.prog.godebug = none := by kernel_rfl
theorem topkOrders_laid : laidOutB Try.prog = true := by kernel_rfl
theorem topkOrders_tys : valTys Try.prog Try.f17.params.toList = some [.int .i64, .lst 8 (.int .i64)] := by kernel_rfl
theorem topkOrders_rd : Try.f17.params.toList.all (fun t => Try.prog.readableRec t && decide (t < Try.prog.types.size)) = true := by kernel_rfl
theorem topkOrders_lifted (os : Os) (started : os.Started) (H : Type) (enc : TypeId × Value → H) : ReturnsInHanded {} Try.checked os 17 .any (Rows.topkOrdersSpec.pre6 enc Try.prog Try.f17 Rows.topkOrdersRow.domain false) (Rows.topkOrdersSpec.post enc Try.prog Try.f17 false true false false) := by
  refine lift_law (C := Try.checked) (tb := 4) (ys := [.int .i64, .lst 8 (.int .i64)]) topkOrders_own started (by kernel_rfl) Try.func17
    (ChangeSpec.witness6 (enc := enc) (C := Try.checked) false ⟨#[], #[.int .i64 0, .slice none 0 0], []⟩ 8 (by kernel_rfl) (by kernel_rfl) (by kernel_rfl) (by kernel_rfl)) rfl (by kernel_rfl) (by kernel_rfl) topkOrders_laid topkOrders_rd topkOrders_tys ?_ topkOrders_law
  intro ds hds
  rw [show Try.f17.params.toList.length = 2 from by kernel_rfl] at hds
  match ds, hds with
  | [d0, d1], _ => rfl
theorem topkOrders_cl : Try.prog.closure 17 = [17, 50, 52, 99, 107, 100, 146, 101, 102, 147, 103, 104, 149, 186, 171, 148, 178, 150, 187, 179, 206, 180, 207, 208, 181, 209, 210, 220, 182, 183, 184, 185, 57, 53, 51, 65, 115, 163, 193, 194, 213, 195, 196, 214, 215, 221, 197, 198, 199, 200, 116, 165, 201, 166, 164, 56, 58, 66, 117, 167, 118] := by kernel_rfl
theorem topkOrders_in : Rows.topkOrdersRow.inPlace = Try.prog.inPlace 17 := by unfold Program.inPlace; rw [topkOrders_cl]; kernel_rfl
theorem topkOrders_un : Rows.topkOrdersRow.unfollowed = Try.prog.unfollowed 17 := by unfold Program.unfollowed; rw [topkOrders_cl]; kernel_rfl
theorem topkOrders_re : Rows.topkOrdersRow.recurses = Try.prog.recurses 17 := by unfold Program.recurses; rw [← topkOrders_un]; rfl
theorem topkOrders_na : Rows.topkOrdersRow.named = Try.prog.varsNamed 17 := by unfold Program.varsNamed; rw [topkOrders_cl]; kernel_rfl
theorem topkOrders_mr : mapsRowed Try.prog = true := by kernel_rfl
theorem topkOrders_jf : joinedFacts Try.prog 17 Try.f17 Rows.topkOrdersSpec Rows.topkOrdersRow = true := by unfold joinedFacts; rw [topkOrders_laid, topkOrders_mr, ← topkOrders_in, ← topkOrders_un, ← topkOrders_re, ← topkOrders_na]; kernel_rfl
theorem topkOrders_over : Rows.topkOrdersRow.holds Try.pinned (OpenSpec.ofChange Rows.topkOrdersSpec) :=
  OpenClaim.holds_of_wide 17 Try.f17 rfl rfl rfl rfl rfl rfl rfl ⟨rfl, rfl, rfl, rfl, rfl⟩ rfl rfl rfl rfl rfl (by kernel_rfl) Try.func17 topkOrders_jf
    (of_decide_eq_true (by kernel_rfl)) (by unfold Func.isWrapper; first | (rw [if_pos (by decide +kernel)]; kernel_rfl) | (rw [if_neg (by decide +kernel)]; exact ⟨rfl, rfl⟩))
    (fun os started H enc _ => topkOrders_lifted os started H enc)
end Go.Proofs.Ythhcgcaefjmekaa.Abs
namespace Go.Proofs.Ythhcgcaefjmekaa
/-- The statement. -/
theorem topkOrders_holds : Rows.TopkOrdersSaid := Abs.topkOrders_over
#print axioms topkOrders_holds
end Go.Proofs.Ythhcgcaefjmekaa
