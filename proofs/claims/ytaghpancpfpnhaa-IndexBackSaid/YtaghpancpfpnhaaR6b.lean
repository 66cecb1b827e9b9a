/- IndexBack: whatever comes in it answers true, and what came in reads as it did. Conditions: none. -/
import Derived.Test.YtaghpancpfpnhaaAW
import Derived.Test.YtaghpancpfpnhaaP6f
import Derived.Test.YtaghpancpfpnhaaRows
import Derived.Test.YtaghpancpfpnhaaAbs6
import Derived.JoinedOf
import Derived.OpenShut
namespace Go.Proofs.Ytaghpancpfpnhaa.Abs
open Go Go.RowKit Go.ChangeShapes Go.WideShapes Go.ChangeAt
set_option linter.unusedVariables false
set_option maxRecDepth 100000
theorem indexBack_law (xs : List D) (h : Ty.oks [.int .i64, .lst 8 (.int .i64), .lst 1 (.int .u8), .lst 1 (.int .u8)] xs) : EvF Try.prog 4 xs (.d (.bool true)) := by
  obtain ⟨x0, ys, rfl, h0, h⟩ := oks_1 h
  obtain ⟨x1, ys, rfl, h1, h⟩ := oks_1 h
  obtain ⟨x2, ys, rfl, h2, h⟩ := oks_1 h
  obtain ⟨x3, ys, rfl, h3, h⟩ := oks_1 h
  obtain rfl := oks_0 h
  obtain ⟨a0, rfl, k0⟩ := ok_int h0
  obtain ⟨a1, rfl, b1, k1⟩ := ok_ints h1
  obtain ⟨a2, rfl, b2, k2⟩ := ok_ints h2
  obtain ⟨a3, rfl, b3, k3⟩ := ok_ints h3
  exact ok_thrumlaw06_IndexBack a0 a1 a2 a3 true (IndexBack_true a0 a1 a2 a3 (by omega) (by omega) (by omega) (fun x hx => InK_u8 (k2 x hx)) (fun x hx => InK_u8 (k3 x hx)))
theorem indexBack_own : ownKnob Try.prog.godebug = none := by kernel_rfl
theorem indexBack_laid : laidOutB Try.prog = true := by kernel_rfl
theorem indexBack_tys : valTys Try.prog Try.f4.params.toList = some [.int .i64, .lst 8 (.int .i64), .lst 1 (.int .u8), .lst 1 (.int .u8)] := by kernel_rfl
theorem indexBack_rd : Try.f4.params.toList.all (fun t => Try.prog.readableRec t && decide (t < Try.prog.types.size)) = true := by kernel_rfl
theorem indexBack_lifted (os : Os) (started : os.Started) (H : Type) (enc : TypeId × Value → H) : ReturnsInHanded {} Try.checked os 4 .any (Rows.indexBackSpec.pre6 enc Try.prog Try.f4 Rows.indexBackRow.domain false) (Rows.indexBackSpec.post enc Try.prog Try.f4 false true false false) := by
  refine lift_law (C := Try.checked) (tb := 4) (ys := [.int .i64, .lst 8 (.int .i64), .lst 1 (.int .u8), .lst 1 (.int .u8)]) indexBack_own started (by kernel_rfl) Try.func4
    (ChangeSpec.witness6 (enc := enc) (C := Try.checked) false ⟨#[], #[.int .i64 0, .slice none 0 0, .slice none 0 0, .slice none 0 0], []⟩ 8 (by kernel_rfl) (by kernel_rfl) (by kernel_rfl) (by kernel_rfl)) rfl (by kernel_rfl) (by kernel_rfl) indexBack_laid indexBack_rd indexBack_tys ?_ indexBack_law
  intro ds hds
  rw [show Try.f4.params.toList.length = 4 from by kernel_rfl] at hds
  match ds, hds with
  | [d0, d1, d2, d3], _ => rfl
theorem indexBack_over : Rows.indexBackRow.holds Try.pinned (OpenSpec.ofChange Rows.indexBackSpec) :=
  OpenClaim.holds_of_wide 4 Try.f4 rfl rfl rfl rfl rfl rfl rfl ⟨rfl, rfl, rfl, rfl, rfl⟩ rfl rfl rfl rfl rfl (by kernel_rfl) Try.func4 (by kernel_rfl)
    (of_decide_eq_true (by kernel_rfl)) (by unfold Func.isWrapper; first | (rw [if_pos (by decide +kernel)]; kernel_rfl) | (rw [if_neg (by decide +kernel)]; exact ⟨rfl, rfl⟩))
    (fun os started H enc _ => indexBack_lifted os started H enc)
end Go.Proofs.Ytaghpancpfpnhaa.Abs
namespace Go.Proofs.Ytaghpancpfpnhaa
/-- The statement. -/
theorem indexBack_holds : Rows.IndexBackSaid := Abs.indexBack_over
#print axioms indexBack_holds
end Go.Proofs.Ytaghpancpfpnhaa
