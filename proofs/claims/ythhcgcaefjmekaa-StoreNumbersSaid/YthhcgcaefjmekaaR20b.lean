/- StoreNumbers: whatever comes in it answers true, and what came in reads as it did. Conditions: none. -/
import Derived.Test.YthhcgcaefjmekaaSW2
import Derived.Test.YthhcgcaefjmekaaPS4
import Derived.Test.YthhcgcaefjmekaaRows
import Derived.Test.YthhcgcaefjmekaaAbs6
import Derived.JoinedOf
import Derived.OpenShut
namespace Go.Proofs.Ythhcgcaefjmekaa.Abs
open Go Go.RowKit Go.ChangeShapes Go.WideShapes Go.ChangeAt
set_option linter.unusedVariables false
set_option maxRecDepth 100000
theorem storeNumbers_law (xs : List D) (h : Ty.oks [.int .i64, .lst 1 (.int .u8), .int .i64] xs) : EvF Try.prog 5 xs (.d (.bool true)) := by
  obtain ⟨x0, ys, rfl, h0, h⟩ := oks_1 h
  obtain ⟨x1, ys, rfl, h1, h⟩ := oks_1 h
  obtain ⟨x2, ys, rfl, h2, h⟩ := oks_1 h
  obtain rfl := oks_0 h
  obtain ⟨a0, rfl, k0⟩ := ok_int h0
  obtain ⟨a1, rfl, b1, k1⟩ := ok_ints h1
  obtain ⟨a2, rfl, k2⟩ := ok_int h2
  exact ok_thrumlaw20_StoreNumbers _ _ _ true (StoreNumbers_true a0 a1 a2 (fun x hx => InK_u8 (k1 x hx)) (by omega))
theorem storeNumbers_own : ownKnob Try.prog.godebug = none := by kernel_rfl
theorem storeNumbers_laid : laidOutB Try.prog = true := by kernel_rfl
theorem storeNumbers_tys : valTys Try.prog Try.f5.params.toList = some [.int .i64, .lst 1 (.int .u8), .int .i64] := by kernel_rfl
theorem storeNumbers_rd : Try.f5.params.toList.all (fun t => Try.prog.readableRec t && decide (t < Try.prog.types.size)) = true := by kernel_rfl
theorem storeNumbers_lifted (os : Os) (started : os.Started) (H : Type) (enc : TypeId × Value → H) : ReturnsInHanded {} Try.checked os 5 .any (Rows.storeNumbersSpec.pre6 enc Try.prog Try.f5 Rows.storeNumbersRow.domain false) (Rows.storeNumbersSpec.post enc Try.prog Try.f5 false true false false) := by
  refine lift_law (C := Try.checked) (tb := 4) (ys := [.int .i64, .lst 1 (.int .u8), .int .i64]) storeNumbers_own started (by kernel_rfl) Try.func5
    (ChangeSpec.witness6 (enc := enc) (C := Try.checked) false ⟨#[], #[.int .i64 0, .slice none 0 0, .int .i64 0], []⟩ 8 (by kernel_rfl) (by kernel_rfl) (by kernel_rfl) (by kernel_rfl)) rfl (by kernel_rfl) (by kernel_rfl) storeNumbers_laid storeNumbers_rd storeNumbers_tys ?_ storeNumbers_law
  intro ds hds
  rw [show Try.f5.params.toList.length = 3 from by kernel_rfl] at hds
  match ds, hds with
  | [d0, d1, d2], _ => rfl
theorem storeNumbers_over : Rows.storeNumbersRow.holds Try.pinned (OpenSpec.ofChange Rows.storeNumbersSpec) :=
  OpenClaim.holds_of_wide 5 Try.f5 rfl rfl rfl rfl rfl rfl rfl ⟨rfl, rfl, rfl, rfl, rfl⟩ rfl rfl rfl rfl rfl (by kernel_rfl) Try.func5 (by kernel_rfl)
    (of_decide_eq_true (by kernel_rfl)) (by unfold Func.isWrapper; first | (rw [if_pos (by decide +kernel)]; kernel_rfl) | (rw [if_neg (by decide +kernel)]; exact ⟨rfl, rfl⟩))
    (fun os started H enc _ => storeNumbers_lifted os started H enc)
end Go.Proofs.Ythhcgcaefjmekaa.Abs
namespace Go.Proofs.Ythhcgcaefjmekaa
/-- The statement. -/
theorem storeNumbers_holds : Rows.StoreNumbersSaid := Abs.storeNumbers_over
#print axioms storeNumbers_holds
end Go.Proofs.Ythhcgcaefjmekaa
