/- StoreHalves: whatever comes in it answers true, and what came in reads as it did. Conditions: none. -/
import Derived.Test.YthhcgcaefjmekaaSW2
import Derived.Test.YthhcgcaefjmekaaPS4
import Derived.Test.YthhcgcaefjmekaaRows
import Derived.Test.YthhcgcaefjmekaaAbs6
import Derived.JoinedOf
import Derived.OpenShut
namespace Go.Proofs.Ythhcgcaefjmekaa.Abs
open Go Go.RowKit Go.ChangeShapes Go.WideShapes Go.ChangeAt
set_option linter.unusedVariables false
set_option maxRecDepth 100000
theorem storeHalves_law (xs : List D) (h : Ty.oks [.int .i64, .lst 24 (.lst 1 (.int .u8)), .lst 8 (.int .i64)] xs) : EvF Try.prog 3 xs (.d (.bool true)) := by
  obtain ⟨x0, ys, rfl, h0, h⟩ := oks_1 h
  obtain ⟨x1, ys, rfl, h1, h⟩ := oks_1 h
  obtain ⟨x2, ys, rfl, h2, h⟩ := oks_1 h
  obtain rfl := oks_0 h
  obtain ⟨a0, rfl, k0⟩ := ok_int h0
  obtain ⟨a1, rfl, b1, k1⟩ := ok_intss h1
  obtain ⟨a2, rfl, b2, k2⟩ := ok_ints h2
  exact ok_thrumlaw20_StoreHalves _ _ _ true (StoreHalves_true a0 a1 a2 (fun b hb => ⟨fun x hx => InK_u8 ((k1 b hb).2 x hx), by have := (k1 b hb).1; omega⟩) (by omega))
theorem storeHalves_own : ownKnob Try.prog.godebug = none := by kernel_rfl
theorem storeHalves_laid : laidOutB Try.prog = true := by kernel_rfl
theorem storeHalves_tys : valTys Try.prog Try.f3.params.toList = some [.int .i64, .lst 24 (.lst 1 (.int .u8)), .lst 8 (.int .i64)] := by kernel_rfl
theorem storeHalves_rd : Try.f3.params.toList.all (fun t => Try.prog.readableRec t && decide (t < Try.prog.types.size)) = true := by kernel_rfl
theorem storeHalves_lifted (os : Os) (started : os.Started) (H : Type) (enc : TypeId × Value → H) : ReturnsInHanded {} Try.checked os 3 .any (Rows.storeHalvesSpec.pre6 enc Try.prog Try.f3 Rows.storeHalvesRow.domain false) (Rows.storeHalvesSpec.post enc Try.prog Try.f3 false true false false) := by
  refine lift_law (C := Try.checked) (tb := 4) (ys := [.int .i64, .lst 24 (.lst 1 (.int .u8)), .lst 8 (.int .i64)]) storeHalves_own started (by kernel_rfl) Try.func3
    (ChangeSpec.witness6 (enc := enc) (C := Try.checked) false ⟨#[], #[.int .i64 0, .slice none 0 0, .slice none 0 0], []⟩ 8 (by kernel_rfl) (by kernel_rfl) (by kernel_rfl) (by kernel_rfl)) rfl (by kernel_rfl) (by kernel_rfl) storeHalves_laid storeHalves_rd storeHalves_tys ?_ storeHalves_law
  intro ds hds
  rw [show Try.f3.params.toList.length = 3 from by kernel_rfl] at hds
  match ds, hds with
  | [d0, d1, d2], _ => rfl
theorem storeHalves_over : Rows.storeHalvesRow.holds Try.pinned (OpenSpec.ofChange Rows.storeHalvesSpec) :=
  OpenClaim.holds_of_wide 3 Try.f3 rfl rfl rfl rfl rfl rfl rfl ⟨rfl, rfl, rfl, rfl, rfl⟩ rfl rfl rfl rfl rfl (by kernel_rfl) Try.func3 (by kernel_rfl)
    (of_decide_eq_true (by kernel_rfl)) (by unfold Func.isWrapper; first | (rw [if_pos (by decide +kernel)]; kernel_rfl) | (rw [if_neg (by decide +kernel)]; exact ⟨rfl, rfl⟩))
    (fun os started H enc _ => storeHalves_lifted os started H enc)
end Go.Proofs.Ythhcgcaefjmekaa.Abs
namespace Go.Proofs.Ythhcgcaefjmekaa
/-- The statement. -/
theorem storeHalves_holds : Rows.StoreHalvesSaid := Abs.storeHalves_over
#print axioms storeHalves_holds
end Go.Proofs.Ythhcgcaefjmekaa
