/- StoreBack: whatever comes in it answers true, and what came in reads as it did. Conditions: none. -/
import Derived.Test.YthhcgcaefjmekaaSW2
import Derived.Test.YthhcgcaefjmekaaPS7
import Derived.Test.YthhcgcaefjmekaaRows
import Derived.Test.YthhcgcaefjmekaaAbs6
import Derived.JoinedOf
import Derived.OpenShut
namespace Go.Proofs.Ythhcgcaefjmekaa.Abs
open Go Go.RowKit Go.ChangeShapes Go.WideShapes Go.ChangeAt
set_option linter.unusedVariables false
set_option maxRecDepth 100000
theorem storeBack_law (xs : List D) (h : Ty.oks [.int .i64, .lst 24 (.lst 8 (.int .i64)), .lst 1 (.int .u8), .agg [.lst 24 (.lst 1 (.int .u8))]] xs) : EvF Try.prog 10 xs (.d (.bool true)) := by
  obtain ⟨x0, ys, rfl, h0, h⟩ := oks_1 h
  obtain ⟨x1, ys, rfl, h1, h⟩ := oks_1 h
  obtain ⟨x2, ys, rfl, h2, h⟩ := oks_1 h
  obtain ⟨x3, ys, rfl, h3, h⟩ := oks_1 h
  obtain rfl := oks_0 h
  obtain ⟨a0, rfl, k0⟩ := ok_int h0
  obtain ⟨a1, rfl, b1, k1⟩ := ok_intss h1
  obtain ⟨a2, rfl, b2, k2⟩ := ok_ints h2
  simp only [Ty.ok] at h3
  obtain ⟨c3, rfl, h3⟩ := h3
  obtain ⟨x3_0, ys, rfl, h3_0, h3⟩ := oks_1 h3
  obtain rfl := oks_0 h3
  obtain ⟨a3_0, rfl, b3_0, k3_0⟩ := ok_intss h3_0
  exact ok_thrumlaw20_StoreBack _ _ _ ⟨a3_0⟩ true (StoreBack_true a0 a1 a2 a3_0 (InK_i64 k0) (by omega) (fun x hx n hn => InK_i64 ((k1 x hx).2 n hn)) (fun x hx => InK_u8 (k2 x hx)) (by omega) (by omega) (fun c hc x hx => InK_u8 ((k3_0 c hc).2 x hx)))
theorem storeBack_own : ownKnob Try.prog.godebug = none := by kernel_rfl
theorem storeBack_laid : laidOutB Try.prog = true := by kernel_rfl
theorem storeBack_tys : valTys Try.prog Try.f10.params.toList = some [.int .i64, .lst 24 (.lst 8 (.int .i64)), .lst 1 (.int .u8), .agg [.lst 24 (.lst 1 (.int .u8))]] := by kernel_rfl
theorem storeBack_rd : Try.f10.params.toList.all (fun t => Try.prog.readableRec t && decide (t < Try.prog.types.size)) = true := by kernel_rfl
theorem storeBack_lifted (os : Os) (started : os.Started) (H : Type) (enc : TypeId × Value → H) : ReturnsInHanded {} Try.checked os 10 .any (Rows.storeBackSpec.pre6 enc Try.prog Try.f10 Rows.storeBackRow.domain false) (Rows.storeBackSpec.post enc Try.prog Try.f10 false true false false) := by
  refine lift_law (C := Try.checked) (tb := 4) (ys := [.int .i64, .lst 24 (.lst 8 (.int .i64)), .lst 1 (.int .u8), .agg [.lst 24 (.lst 1 (.int .u8))]]) storeBack_own started (by kernel_rfl) Try.func10
    (ChangeSpec.witness6 (enc := enc) (C := Try.checked) false ⟨#[], #[.int .i64 0, .slice none 0 0, .slice none 0 0, .agg #[.slice none 0 0]], []⟩ 8 (by kernel_rfl) (by kernel_rfl) (by kernel_rfl) (by kernel_rfl)) rfl (by kernel_rfl) (by kernel_rfl) storeBack_laid storeBack_rd storeBack_tys ?_ storeBack_law
  intro ds hds
  rw [show Try.f10.params.toList.length = 4 from by kernel_rfl] at hds
  match ds, hds with
  | [d0, d1, d2, d3], _ => rfl
theorem storeBack_over : Rows.storeBackRow.holds Try.pinned (OpenSpec.ofChange Rows.storeBackSpec) :=
  OpenClaim.holds_of_wide 10 Try.f10 rfl rfl rfl rfl rfl rfl rfl ⟨rfl, rfl, rfl, rfl, rfl⟩ rfl rfl rfl rfl rfl (by kernel_rfl) Try.func10 (by kernel_rfl)
    (of_decide_eq_true (by kernel_rfl)) (by unfold Func.isWrapper; first | (rw [if_pos (by decide +kernel)]; kernel_rfl) | (rw [if_neg (by decide +kernel)]; exact ⟨rfl, rfl⟩))
    (fun os started H enc _ => storeBack_lifted os started H enc)
end Go.Proofs.Ythhcgcaefjmekaa.Abs
namespace Go.Proofs.Ythhcgcaefjmekaa
/-- The statement. -/
theorem storeBack_holds : Rows.StoreBackSaid := Abs.storeBack_over
#print axioms storeBack_holds
end Go.Proofs.Ythhcgcaefjmekaa
