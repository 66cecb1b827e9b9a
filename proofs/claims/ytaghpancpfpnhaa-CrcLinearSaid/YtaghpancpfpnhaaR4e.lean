/- CrcLinear: whatever comes in it answers true, and what came in reads as it did. Conditions: none. -/
import Derived.Test.YtaghpancpfpnhaaCW
import Derived.Test.YtaghpancpfpnhaaPC5
import Derived.Test.YtaghpancpfpnhaaRows
import Derived.Test.YtaghpancpfpnhaaAbs6
import Derived.JoinedOf
import Derived.OpenShut
namespace Go.Proofs.Ytaghpancpfpnhaa.Abs
open Go Go.RowKit Go.ChangeShapes Go.WideShapes Go.ChangeAt
set_option linter.unusedVariables false
set_option maxRecDepth 100000
theorem crcLinear_law (xs : List D) (h : Ty.oks [.lst 1 (.int .u8), .lst 1 (.int .u8), .lst 1 (.int .u8)] xs) : EvF Try.prog 5 xs (.d (.bool true)) := by
  obtain ⟨x0, ys, rfl, h0, h⟩ := oks_1 h
  obtain ⟨x1, ys, rfl, h1, h⟩ := oks_1 h
  obtain ⟨x2, ys, rfl, h2, h⟩ := oks_1 h
  obtain rfl := oks_0 h
  obtain ⟨a0, rfl, b0, k0⟩ := ok_ints h0
  obtain ⟨a1, rfl, b1, k1⟩ := ok_ints h1
  obtain ⟨a2, rfl, b2, k2⟩ := ok_ints h2
  obtain ⟨a, rfl⟩ := bytes_of (b := a0) fun x hx => InK_u8 (k0 x hx)
  obtain ⟨b, rfl⟩ := bytes_of (b := a1) fun x hx => InK_u8 (k1 x hx)
  obtain ⟨c, rfl⟩ := bytes_of (b := a2) fun x hx => InK_u8 (k2 x hx)
  exact ok_thrumlaw04_CrcLinear _ _ _ true (CrcLinear_true a b c)
theorem crcLinear_own : ownKnob Try.prog.godebug = none := by kernel_rfl
theorem crcLinear_laid : laidOutB Try.prog = true := by kernel_rfl
theorem crcLinear_tys : valTys Try.prog Try.f5.params.toList = some [.lst 1 (.int .u8), .lst 1 (.int .u8), .lst 1 (.int .u8)] := by kernel_rfl
theorem crcLinear_rd : Try.f5.params.toList.all (fun t => Try.prog.readableRec t && decide (t < Try.prog.types.size)) = true := by kernel_rfl
theorem crcLinear_lifted (os : Os) (started : os.Started) (H : Type) (enc : TypeId × Value → H) : ReturnsInHanded {} Try.checked os 5 .any (Rows.crcLinearSpec.pre6 enc Try.prog Try.f5 Rows.crcLinearRow.domain false) (Rows.crcLinearSpec.post enc Try.prog Try.f5 false true false false) := by
  refine lift_law (C := Try.checked) (tb := 4) (ys := [.lst 1 (.int .u8), .lst 1 (.int .u8), .lst 1 (.int .u8)]) crcLinear_own started (by kernel_rfl) Try.func5
    (ChangeSpec.witness6 (enc := enc) (C := Try.checked) false ⟨#[], #[.slice none 0 0, .slice none 0 0, .slice none 0 0], []⟩ 8 (by kernel_rfl) (by kernel_rfl) (by kernel_rfl) (by kernel_rfl)) rfl (by kernel_rfl) (by kernel_rfl) crcLinear_laid crcLinear_rd crcLinear_tys ?_ crcLinear_law
  intro ds hds
  rw [show Try.f5.params.toList.length = 3 from by kernel_rfl] at hds
  match ds, hds with
  | [d0, d1, d2], _ => rfl
theorem crcLinear_over : Rows.crcLinearRow.holds Try.pinned (OpenSpec.ofChange Rows.crcLinearSpec) :=
  OpenClaim.holds_of_wide 5 Try.f5 rfl rfl rfl rfl rfl rfl rfl ⟨rfl, rfl, rfl, rfl, rfl⟩ rfl rfl rfl rfl rfl (by kernel_rfl) Try.func5 (by kernel_rfl)
    (of_decide_eq_true (by kernel_rfl)) (by unfold Func.isWrapper; first | (rw [if_pos (by decide +kernel)]; kernel_rfl) | (rw [if_neg (by decide +kernel)]; exact ⟨rfl, rfl⟩))
    (fun os started H enc _ => crcLinear_lifted os started H enc)
end Go.Proofs.Ytaghpancpfpnhaa.Abs
namespace Go.Proofs.Ytaghpancpfpnhaa
/-- The statement. -/
theorem crcLinear_holds : Rows.CrcLinearSaid := Abs.crcLinear_over
#print axioms crcLinear_holds
end Go.Proofs.Ytaghpancpfpnhaa
