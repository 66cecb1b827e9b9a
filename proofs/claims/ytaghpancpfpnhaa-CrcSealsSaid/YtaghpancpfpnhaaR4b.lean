/- CrcSeals: whatever comes in it answers true, and what came in reads as it did. Conditions: none. -/
import Derived.Test.YtaghpancpfpnhaaCW
import Derived.Test.YtaghpancpfpnhaaPC3
import Derived.Test.YtaghpancpfpnhaaRows
import Derived.Test.YtaghpancpfpnhaaAbs6
import Derived.JoinedOf
import Derived.OpenShut
namespace Go.Proofs.Ytaghpancpfpnhaa.Abs
open Go Go.RowKit Go.ChangeShapes Go.WideShapes Go.ChangeAt
set_option linter.unusedVariables false
set_option maxRecDepth 100000
theorem crcSeals_law (xs : List D) (h : Ty.oks [.lst 1 (.int .u8)] xs) : EvF Try.prog 8 xs (.d (.bool true)) := by
  obtain ⟨x0, ys, rfl, h0, h⟩ := oks_1 h
  obtain rfl := oks_0 h
  obtain ⟨a0, rfl, b0, k0⟩ := ok_ints h0
  obtain ⟨b, rfl⟩ := bytes_of (b := a0) fun x hx => InK_u8 (k0 x hx)
  exact ok_thrumlaw04_CrcSeals _ true (CrcSeals_true b)
theorem crcSeals_own : ownKnob Try.prog.godebug = none := by kernel_rfl
theorem crcSeals_laid : laidOutB Try.prog = true := by kernel_rfl
theorem crcSeals_tys : valTys Try.prog Try.f8.params.toList = some [.lst 1 (.int .u8)] := by kernel_rfl
theorem crcSeals_rd : Try.f8.params.toList.all (fun t => Try.prog.readableRec t && decide (t < Try.prog.types.size)) = true := by kernel_rfl
theorem crcSeals_lifted (os : Os) (started : os.Started) (H : Type) (enc : TypeId × Value → H) : ReturnsInHanded {} Try.checked os 8 .any (Rows.crcSealsSpec.pre6 enc Try.prog Try.f8 Rows.crcSealsRow.domain false) (Rows.crcSealsSpec.post enc Try.prog Try.f8 false true false false) := by
  refine lift_law (C := Try.checked) (tb := 4) (ys := [.lst 1 (.int .u8)]) crcSeals_own started (by kernel_rfl) Try.func8
    (ChangeSpec.witness6 (enc := enc) (C := Try.checked) false ⟨#[], #[.slice none 0 0], []⟩ 8 (by kernel_rfl) (by kernel_rfl) (by kernel_rfl) (by kernel_rfl)) rfl (by kernel_rfl) (by kernel_rfl) crcSeals_laid crcSeals_rd crcSeals_tys ?_ crcSeals_law
  intro ds hds
  rw [show Try.f8.params.toList.length = 1 from by kernel_rfl] at hds
  match ds, hds with
  | [d0], _ => rfl
theorem crcSeals_over : Rows.crcSealsRow.holds Try.pinned (OpenSpec.ofChange Rows.crcSealsSpec) :=
  OpenClaim.holds_of_wide 8 Try.f8 rfl rfl rfl rfl rfl rfl rfl ⟨rfl, rfl, rfl, rfl, rfl⟩ rfl rfl rfl rfl rfl (by kernel_rfl) Try.func8 (by kernel_rfl)
    (of_decide_eq_true (by kernel_rfl)) (by unfold Func.isWrapper; first | (rw [if_pos (by decide +kernel)]; kernel_rfl) | (rw [if_neg (by decide +kernel)]; exact ⟨rfl, rfl⟩))
    (fun os started H enc _ => crcSeals_lifted os started H enc)
end Go.Proofs.Ytaghpancpfpnhaa.Abs
namespace Go.Proofs.Ytaghpancpfpnhaa
/-- The statement. -/
theorem crcSeals_holds : Rows.CrcSealsSaid := Abs.crcSeals_over
#print axioms crcSeals_holds
end Go.Proofs.Ytaghpancpfpnhaa
