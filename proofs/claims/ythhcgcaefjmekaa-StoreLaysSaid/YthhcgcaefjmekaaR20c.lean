/- StoreLays: whatever comes in it answers true, and what came in reads as it did. Conditions: none. -/
import Derived.Test.YthhcgcaefjmekaaSW2
import Derived.Test.YthhcgcaefjmekaaPS6
import Derived.Test.YthhcgcaefjmekaaRows
import Derived.Test.YthhcgcaefjmekaaAbs6
import Derived.JoinedOf
import Derived.OpenShut
namespace Go.Proofs.Ythhcgcaefjmekaa.Abs
open Go Go.RowKit Go.ChangeShapes Go.WideShapes Go.ChangeAt
set_option linter.unusedVariables false
set_option maxRecDepth 100000
theorem storeLays_law (xs : List D) (h : Ty.oks [.int .i64, .lst 24 (.lst 8 (.int .i64)), .lst 1 (.int .u8)] xs) : EvF Try.prog 9 xs (.d (.bool true)) := by
  obtain ⟨x0, ys, rfl, h0, h⟩ := oks_1 h
  obtain ⟨x1, ys, rfl, h1, h⟩ := oks_1 h
  obtain ⟨x2, ys, rfl, h2, h⟩ := oks_1 h
  obtain rfl := oks_0 h
  obtain ⟨a0, rfl, k0⟩ := ok_int h0
  obtain ⟨a1, rfl, b1, k1⟩ := ok_intss h1
  obtain ⟨a2, rfl, b2, k2⟩ := ok_ints h2
  exact ok_thrumlaw20_StoreLays _ _ _ true (StoreLays_true a0 a1 a2 (InK_i64 k0) (by omega) (fun x hx n hn => InK_i64 ((k1 x hx).2 n hn)) (fun x hx => InK_u8 (k2 x hx)) (by omega))
theorem storeLays_own : ownKnob Try.prog.godebug = none := by kernel_rfl
theorem storeLays_laid : laidOutB Try.prog = true := by kernel_rfl
theorem storeLays_tys : valTys Try.prog Try.f9.params.toList = some [.int .i64, .lst 24 (.lst 8 (.int .i64)), .lst 1 (.int .u8)] := by kernel_rfl
theorem storeLays_rd : Try.f9.params.toList.all (fun t => Try.prog.readableRec t && decide (t < Try.prog.types.size)) = true := by kernel_rfl
theorem storeLays_lifted (os : Os) (started : os.Started) (H : Type) (enc : TypeId × Value → H) : ReturnsInHanded {} Try.checked os 9 .any (Rows.storeLaysSpec.pre6 enc Try.prog Try.f9 Rows.storeLaysRow.domain false) (Rows.storeLaysSpec.post enc Try.prog Try.f9 false true false false) := by
  refine lift_law (C := Try.checked) (tb := 4) (ys := [.int .i64, .lst 24 (.lst 8 (.int .i64)), .lst 1 (.int .u8)]) storeLays_own started (by kernel_rfl) Try.func9
    (ChangeSpec.witness6 (enc := enc) (C := Try.checked) false ⟨#[], #[.int .i64 0, .slice none 0 0, .slice none 0 0], []⟩ 8 (by kernel_rfl) (by kernel_rfl) (by kernel_rfl) (by kernel_rfl)) rfl (by kernel_rfl) (by kernel_rfl) storeLays_laid storeLays_rd storeLays_tys ?_ storeLays_law
  intro ds hds
  rw [show Try.f9.params.toList.length = 3 from by kernel_rfl] at hds
  match ds, hds with
  | [d0, d1, d2], _ => rfl
theorem storeLays_over : Rows.storeLaysRow.holds Try.pinned (OpenSpec.ofChange Rows.storeLaysSpec) :=
  OpenClaim.holds_of_wide 9 Try.f9 rfl rfl rfl rfl rfl rfl rfl ⟨rfl, rfl, rfl, rfl, rfl⟩ rfl rfl rfl rfl rfl (by kernel_rfl) Try.func9 (by kernel_rfl)
    (of_decide_eq_true (by kernel_rfl)) (by unfold Func.isWrapper; first | (rw [if_pos (by decide +kernel)]; kernel_rfl) | (rw [if_neg (by decide +kernel)]; exact ⟨rfl, rfl⟩))
    (fun os started H enc _ => storeLays_lifted os started H enc)
end Go.Proofs.Ythhcgcaefjmekaa.Abs
namespace Go.Proofs.Ythhcgcaefjmekaa
/-- The statement. -/
theorem storeLays_holds : Rows.StoreLaysSaid := Abs.storeLays_over
#print axioms storeLays_holds
end Go.Proofs.Ythhcgcaefjmekaa
