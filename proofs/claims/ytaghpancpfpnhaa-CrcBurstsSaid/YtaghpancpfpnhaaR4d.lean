/- CrcBursts: whatever comes in it answers true, and what came in reads as it did. Conditions: none. -/
import Derived.Test.YtaghpancpfpnhaaCW
import Derived.Test.YtaghpancpfpnhaaPC4
import Derived.Test.YtaghpancpfpnhaaRows
import Derived.Test.YtaghpancpfpnhaaAbs6
import Derived.JoinedOf
import Derived.OpenShut
namespace Go.Proofs.Ytaghpancpfpnhaa.Abs
open Go Go.RowKit Go.ChangeShapes Go.WideShapes Go.ChangeAt
set_option linter.unusedVariables false
set_option maxRecDepth 100000
theorem crcBursts_law (xs : List D) (h : Ty.oks [.lst 1 (.int .u8), .int .i64, .int .u32] xs) : EvF Try.prog 9 xs (.d (.bool true)) := by
  obtain ⟨x0, ys, rfl, h0, h⟩ := oks_1 h
  obtain ⟨x1, ys, rfl, h1, h⟩ := oks_1 h
  obtain ⟨x2, ys, rfl, h2, h⟩ := oks_1 h
  obtain rfl := oks_0 h
  obtain ⟨a0, rfl, b0, k0⟩ := ok_ints h0
  obtain ⟨a1, rfl, k1⟩ := ok_int h1
  obtain ⟨a2, rfl, k2⟩ := ok_int h2
  obtain ⟨b, rfl⟩ := bytes_of (b := a0) fun x hx => InK_u8 (k0 x hx)
  obtain ⟨p, rfl⟩ := word_of (InK_u32 k2)
  exact ok_thrumlaw04_CrcBursts _ _ _ true (CrcBursts_true b a1 p (InK_i64 k1).1 (InK_i64 k1).2)
theorem crcBursts_own : ownKnob Try.prog.godebug = none := by kernel_rfl
theorem crcBursts_laid : laidOutB Try.prog = true := by kernel_rfl
theorem crcBursts_tys : valTys Try.prog Try.f9.params.toList = some [.lst 1 (.int .u8), .int .i64, .int .u32] := by kernel_rfl
theorem crcBursts_rd : Try.f9.params.toList.all (fun t => Try.prog.readableRec t && decide (t < Try.prog.types.size)) = true := by kernel_rfl
theorem crcBursts_lifted (os : Os) (started : os.Started) (H : Type) (enc : TypeId × Value → H) : ReturnsInHanded {} Try.checked os 9 .any (Rows.crcBurstsSpec.pre6 enc Try.prog Try.f9 Rows.crcBurstsRow.domain false) (Rows.crcBurstsSpec.post enc Try.prog Try.f9 false true false false) := by
  refine lift_law (C := Try.checked) (tb := 4) (ys := [.lst 1 (.int .u8), .int .i64, .int .u32]) crcBursts_own started (by kernel_rfl) Try.func9
    (ChangeSpec.witness6 (enc := enc) (C := Try.checked) false ⟨#[], #[.slice none 0 0, .int .i64 0, .int .u32 0], []⟩ 8 (by kernel_rfl) (by kernel_rfl) (by kernel_rfl) (by kernel_rfl)) rfl (by kernel_rfl) (by kernel_rfl) crcBursts_laid crcBursts_rd crcBursts_tys ?_ crcBursts_law
  intro ds hds
  rw [show Try.f9.params.toList.length = 3 from by kernel_rfl] at hds
  match ds, hds with
  | [d0, d1, d2], _ => rfl
theorem crcBursts_over : Rows.crcBurstsRow.holds Try.pinned (OpenSpec.ofChange Rows.crcBurstsSpec) :=
  OpenClaim.holds_of_wide 9 Try.f9 rfl rfl rfl rfl rfl rfl rfl ⟨rfl, rfl, rfl, rfl, rfl⟩ rfl rfl rfl rfl rfl (by kernel_rfl) Try.func9 (by kernel_rfl)
    (of_decide_eq_true (by kernel_rfl)) (by unfold Func.isWrapper; first | (rw [if_pos (by decide +kernel)]; kernel_rfl) | (rw [if_neg (by decide +kernel)]; exact ⟨rfl, rfl⟩))
    (fun os started H enc _ => crcBursts_lifted os started H enc)
end Go.Proofs.Ytaghpancpfpnhaa.Abs
namespace Go.Proofs.Ytaghpancpfpnhaa
/-- The statement. -/
theorem crcBursts_holds : Rows.CrcBurstsSaid := Abs.crcBursts_over
#print axioms crcBursts_holds
end Go.Proofs.Ytaghpancpfpnhaa
