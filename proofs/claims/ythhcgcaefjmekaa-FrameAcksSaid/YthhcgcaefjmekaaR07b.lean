/- FrameAcks: whatever comes in it answers true, and what came in reads as it did. Conditions: none. -/
import Derived.Test.YthhcgcaefjmekaaFW2
import Derived.Test.YthhcgcaefjmekaaPF3
import Derived.Test.YthhcgcaefjmekaaRows
import Derived.Test.YthhcgcaefjmekaaAbs6
import Derived.JoinedOf
import Derived.OpenShut
namespace Go.Proofs.Ythhcgcaefjmekaa.Abs
open Go Go.RowKit Go.ChangeShapes Go.WideShapes Go.ChangeAt
set_option linter.unusedVariables false
set_option maxRecDepth 100000
theorem frameAcks_law (xs : List D) (h : Ty.oks [.int .i64, .int .i64] xs) : EvF Try.prog 13 xs (.d (.bool true)) := by
  obtain ⟨x0, ys, rfl, h0, h⟩ := oks_1 h
  obtain ⟨x1, ys, rfl, h1, h⟩ := oks_1 h
  obtain rfl := oks_0 h
  obtain ⟨a0, rfl, k0⟩ := ok_int h0
  obtain ⟨a1, rfl, k1⟩ := ok_int h1
  exact ok_thrumlaw07_FrameAcks _ _ true (FrameAcks_true a0 a1 (InK_i64 k0) (InK_i64 k1))
theorem frameAcks_own : ownKnob Try.prog.godebug = none := by kernel_rfl
theorem frameAcks_laid : laidOutB Try.prog = true := by kernel_rfl
theorem frameAcks_tys : valTys Try.prog Try.f13.params.toList = some [.int .i64, .int .i64] := by kernel_rfl
theorem frameAcks_rd : Try.f13.params.toList.all (fun t => Try.prog.readableRec t && decide (t < Try.prog.types.size)) = true := by kernel_rfl
theorem frameAcks_lifted (os : Os) (started : os.Started) (H : Type) (enc : TypeId × Value → H) : ReturnsInHanded {} Try.checked os 13 .any (Rows.frameAcksSpec.pre6 enc Try.prog Try.f13 Rows.frameAcksRow.domain false) (Rows.frameAcksSpec.post enc Try.prog Try.f13 false true false false) := by
  refine lift_law (C := Try.checked) (tb := 4) (ys := [.int .i64, .int .i64]) frameAcks_own started (by kernel_rfl) Try.func13
    (ChangeSpec.witness6 (enc := enc) (C := Try.checked) false ⟨#[], #[.int .i64 0, .int .i64 0], []⟩ 8 (by kernel_rfl) (by kernel_rfl) (by kernel_rfl) (by kernel_rfl)) rfl (by kernel_rfl) (by kernel_rfl) frameAcks_laid frameAcks_rd frameAcks_tys ?_ frameAcks_law
  intro ds hds
  rw [show Try.f13.params.toList.length = 2 from by kernel_rfl] at hds
  match ds, hds with
  | [d0, d1], _ => rfl
theorem frameAcks_over : Rows.frameAcksRow.holds Try.pinned (OpenSpec.ofChange Rows.frameAcksSpec) :=
  OpenClaim.holds_of_wide 13 Try.f13 rfl rfl rfl rfl rfl rfl rfl ⟨rfl, rfl, rfl, rfl, rfl⟩ rfl rfl rfl rfl rfl (by kernel_rfl) Try.func13 (by kernel_rfl)
    (of_decide_eq_true (by kernel_rfl)) (by unfold Func.isWrapper; first | (rw [if_pos (by decide +kernel)]; kernel_rfl) | (rw [if_neg (by decide +kernel)]; exact ⟨rfl, rfl⟩))
    (fun os started H enc _ => frameAcks_lifted os started H enc)
end Go.Proofs.Ythhcgcaefjmekaa.Abs
namespace Go.Proofs.Ythhcgcaefjmekaa
/-- The statement. -/
theorem frameAcks_holds : Rows.FrameAcksSaid := Abs.frameAcks_over
#print axioms frameAcks_holds
end Go.Proofs.Ythhcgcaefjmekaa
