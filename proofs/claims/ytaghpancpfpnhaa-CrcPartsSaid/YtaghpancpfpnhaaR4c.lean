/- CrcParts: whatever comes in it answers true, and what came in reads as it did. Conditions: none. -/
import Derived.Test.YtaghpancpfpnhaaCW
import Derived.Test.YtaghpancpfpnhaaPC4
import Derived.Test.YtaghpancpfpnhaaRows
import Derived.Test.YtaghpancpfpnhaaAbs6
import Derived.JoinedOf
import Derived.OpenShut
namespace Go.Proofs.Ytaghpancpfpnhaa.Abs
open Go Go.RowKit Go.ChangeShapes Go.WideShapes Go.ChangeAt
set_option linter.unusedVariables false
set_option maxRecDepth 100000
theorem crcParts_law (xs : List D) (h : Ty.oks [.lst 1 (.int .u8), .lst 1 (.int .u8), .int .i64] xs) : EvF Try.prog 7 xs (.d (.bool true)) := by
  obtain ⟨x0, ys, rfl, h0, h⟩ := oks_1 h
  obtain ⟨x1, ys, rfl, h1, h⟩ := oks_1 h
  obtain ⟨x2, ys, rfl, h2, h⟩ := oks_1 h
  obtain rfl := oks_0 h
  obtain ⟨a0, rfl, b0, k0⟩ := ok_ints h0
  obtain ⟨a1, rfl, b1, k1⟩ := ok_ints h1
  obtain ⟨a2, rfl, k2⟩ := ok_int h2
  obtain ⟨a, rfl⟩ := bytes_of (b := a0) fun x hx => InK_u8 (k0 x hx)
  obtain ⟨b, rfl⟩ := bytes_of (b := a1) fun x hx => InK_u8 (k1 x hx)
  exact ok_thrumlaw04_CrcParts _ _ _ true (CrcParts_true a b a2 (InK_i64 k2).2 (by rw [List.length_map] at b0; omega) (by rw [List.length_map] at b1; omega))
theorem crcParts_own : ownKnob Try.prog.godebug = none := by kernel_rfl
theorem crcParts_laid : laidOutB Try.prog = true := by kernel_rfl
theorem crcParts_tys : valTys Try.prog Try.f7.params.toList = some [.lst 1 (.int .u8), .lst 1 (.int .u8), .int .i64] := by kernel_rfl
theorem crcParts_rd : Try.f7.params.toList.all (fun t => Try.prog.readableRec t && decide (t < Try.prog.types.size)) = true := by kernel_rfl
theorem crcParts_lifted (os : Os) (started : os.Started) (H : Type) (enc : TypeId × Value → H) : ReturnsInHanded {} Try.checked os 7 .any (Rows.crcPartsSpec.pre6 enc Try.prog Try.f7 Rows.crcPartsRow.domain false) (Rows.crcPartsSpec.post enc Try.prog Try.f7 false true false false) := by
  refine lift_law (C := Try.checked) (tb := 4) (ys := [.lst 1 (.int .u8), .lst 1 (.int .u8), .int .i64]) crcParts_own started (by kernel_rfl) Try.func7
    (ChangeSpec.witness6 (enc := enc) (C := Try.checked) false ⟨#[], #[.slice none 0 0, .slice none 0 0, .int .i64 0], []⟩ 8 (by kernel_rfl) (by kernel_rfl) (by kernel_rfl) (by kernel_rfl)) rfl (by kernel_rfl) (by kernel_rfl) crcParts_laid crcParts_rd crcParts_tys ?_ crcParts_law
  intro ds hds
  rw [show Try.f7.params.toList.length = 3 from by kernel_rfl] at hds
  match ds, hds with
  | [d0, d1, d2], _ => rfl
theorem crcParts_over : Rows.crcPartsRow.holds Try.pinned (OpenSpec.ofChange Rows.crcPartsSpec) :=
  OpenClaim.holds_of_wide 7 Try.f7 rfl rfl rfl rfl rfl rfl rfl ⟨rfl, rfl, rfl, rfl, rfl⟩ rfl rfl rfl rfl rfl (by kernel_rfl) Try.func7 (by kernel_rfl)
    (of_decide_eq_true (by kernel_rfl)) (by unfold Func.isWrapper; first | (rw [if_pos (by decide +kernel)]; kernel_rfl) | (rw [if_neg (by decide +kernel)]; exact ⟨rfl, rfl⟩))
    (fun os started H enc _ => crcParts_lifted os started H enc)
end Go.Proofs.Ytaghpancpfpnhaa.Abs
namespace Go.Proofs.Ytaghpancpfpnhaa
/-- The statement. -/
theorem crcParts_holds : Rows.CrcPartsSaid := Abs.crcParts_over
#print axioms crcParts_holds
end Go.Proofs.Ytaghpancpfpnhaa
