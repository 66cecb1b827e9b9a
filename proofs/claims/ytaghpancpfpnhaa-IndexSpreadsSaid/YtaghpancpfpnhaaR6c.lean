/- IndexSpreads: whatever comes in it answers true, and what came in reads as it did. Conditions: none. -/
import Derived.Test.YtaghpancpfpnhaaAW
import Derived.Test.YtaghpancpfpnhaaP6g
import Derived.Test.YtaghpancpfpnhaaRows
import Derived.Test.YtaghpancpfpnhaaAbs6
import Derived.JoinedOf
import Derived.OpenShut
namespace Go.Proofs.Ytaghpancpfpnhaa.Abs
open Go Go.RowKit Go.ChangeShapes Go.WideShapes Go.ChangeAt
set_option linter.unusedVariables false
set_option maxRecDepth 100000
theorem indexSpreads_law (xs : List D) (h : Ty.oks [.lst 8 (.int .i64), .lst 8 (.int .i64), .lst 8 (.int .i64)] xs) : EvF Try.prog 10 xs (.d (.bool true)) := by
  obtain ⟨x0, ys, rfl, h0, h⟩ := oks_1 h
  obtain ⟨x1, ys, rfl, h1, h⟩ := oks_1 h
  obtain ⟨x2, ys, rfl, h2, h⟩ := oks_1 h
  obtain rfl := oks_0 h
  obtain ⟨a0, rfl, b0, k0⟩ := ok_ints h0
  obtain ⟨a1, rfl, b1, k1⟩ := ok_ints h1
  obtain ⟨a2, rfl, b2, k2⟩ := ok_ints h2
  exact ok_thrumlaw06_IndexSpreads a0 a1 a2 true (IndexSpreads_true a0 a1 a2 (by omega) (by omega) (by omega) (fun x hx => InK_i64 (k1 x hx)))
theorem indexSpreads_own : ownKnob Try.prog.godebug = none := by kernel_rfl
theorem indexSpreads_laid : laidOutB Try.prog = true := by kernel_rfl
theorem indexSpreads_tys : valTys Try.prog Try.f10.params.toList = some [.lst 8 (.int .i64), .lst 8 (.int .i64), .lst 8 (.int .i64)] := by kernel_rfl
theorem indexSpreads_rd : Try.f10.params.toList.all (fun t => Try.prog.readableRec t && decide (t < Try.prog.types.size)) = true := by kernel_rfl
theorem indexSpreads_lifted (os : Os) (started : os.Started) (H : Type) (enc : TypeId × Value → H) : ReturnsInHanded {} Try.checked os 10 .any (Rows.indexSpreadsSpec.pre6 enc Try.prog Try.f10 Rows.indexSpreadsRow.domain false) (Rows.indexSpreadsSpec.post enc Try.prog Try.f10 false true false false) := by
  refine lift_law (C := Try.checked) (tb := 4) (ys := [.lst 8 (.int .i64), .lst 8 (.int .i64), .lst 8 (.int .i64)]) indexSpreads_own started (by kernel_rfl) Try.func10
    (ChangeSpec.witness6 (enc := enc) (C := Try.checked) false ⟨#[], #[.slice none 0 0, .slice none 0 0, .slice none 0 0], []⟩ 8 (by kernel_rfl) (by kernel_rfl) (by kernel_rfl) (by kernel_rfl)) rfl (by kernel_rfl) (by kernel_rfl) indexSpreads_laid indexSpreads_rd indexSpreads_tys ?_ indexSpreads_law
  intro ds hds
  rw [show Try.f10.params.toList.length = 3 from by kernel_rfl] at hds
  match ds, hds with
  | [d0, d1, d2], _ => rfl
theorem indexSpreads_over : Rows.indexSpreadsRow.holds Try.pinned (OpenSpec.ofChange Rows.indexSpreadsSpec) :=
  OpenClaim.holds_of_wide 10 Try.f10 rfl rfl rfl rfl rfl rfl rfl ⟨rfl, rfl, rfl, rfl, rfl⟩ rfl rfl rfl rfl rfl (by kernel_rfl) Try.func10 (by kernel_rfl)
    (of_decide_eq_true (by kernel_rfl)) (by unfold Func.isWrapper; first | (rw [if_pos (by decide +kernel)]; kernel_rfl) | (rw [if_neg (by decide +kernel)]; exact ⟨rfl, rfl⟩))
    (fun os started H enc _ => indexSpreads_lifted os started H enc)
end Go.Proofs.Ytaghpancpfpnhaa.Abs
namespace Go.Proofs.Ytaghpancpfpnhaa
/-- The statement. -/
theorem indexSpreads_holds : Rows.IndexSpreadsSaid := Abs.indexSpreads_over
#print axioms indexSpreads_holds
end Go.Proofs.Ytaghpancpfpnhaa
