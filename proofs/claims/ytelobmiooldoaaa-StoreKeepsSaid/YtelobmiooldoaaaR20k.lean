/- StoreKeeps: whatever comes in it answers true, and what came in reads as it did. Conditions: none. -/
import Derived.Test.YtelobmiooldoaaaSW
import Derived.Test.YtelobmiooldoaaaPS8
import Derived.Test.YtelobmiooldoaaaRows
import Derived.Test.YtelobmiooldoaaaAbs6
import Derived.JoinedOf
import Derived.OpenShut
namespace Go.Proofs.Ytelobmiooldoaaa.Abs
open Go Go.RowKit Go.ChangeShapes Go.WideShapes Go.ChangeAt
set_option linter.unusedVariables false
set_option maxRecDepth 100000
theorem storeKeeps_law (xs : List D) (h : Ty.oks [.agg [.lst 24 (.lst 1 (.int .u8))], .lst 1 (.int .u8)] xs) : EvF Try.prog 4 xs (.d (.bool true)) := by
  obtain ⟨x0, ys, rfl, h0, h⟩ := oks_1 h
  obtain ⟨x1, ys, rfl, h1, h⟩ := oks_1 h
  obtain rfl := oks_0 h
  simp only [Ty.ok] at h0
  obtain ⟨c0, rfl, h0⟩ := h0
  obtain ⟨x0_0, ys, rfl, h0_0, h0⟩ := oks_1 h0
  obtain rfl := oks_0 h0
  obtain ⟨a0_0, rfl, b0_0, k0_0⟩ := ok_intss h0_0
  obtain ⟨a1, rfl, b1, k1⟩ := ok_ints h1
  exact ok_thrumlaw20_StoreKeeps ⟨a0_0⟩ a1 true (StoreKeeps_true a0_0 a1 (by omega) (fun c hc x hx => InK_u8 ((k0_0 c hc).2 x hx)) (fun x hx => InK_u8 (k1 x hx)))
theorem storeKeeps_own : ownKnob Try.prog.godebug = none := by kernel_rfl
theorem storeKeeps_laid : laidOutB Try.prog = true := by kernel_rfl
theorem storeKeeps_tys : valTys Try.prog Try.f4.params.toList = some [.agg [.lst 24 (.lst 1 (.int .u8))], .lst 1 (.int .u8)] := by kernel_rfl
theorem storeKeeps_rd : Try.f4.params.toList.all (fun t => Try.prog.readableRec t && decide (t < Try.prog.types.size)) = true := by kernel_rfl
theorem storeKeeps_lifted (os : Os) (started : os.Started) (H : Type) (enc : TypeId × Value → H) : ReturnsInHanded {} Try.checked os 4 .any (Rows.storeKeepsSpec.pre6 enc Try.prog Try.f4 Rows.storeKeepsRow.domain false) (Rows.storeKeepsSpec.post enc Try.prog Try.f4 false true false false) := by
  refine lift_law (C := Try.checked) (tb := 4) (ys := [.agg [.lst 24 (.lst 1 (.int .u8))], .lst 1 (.int .u8)]) storeKeeps_own started (by kernel_rfl) Try.func4
    (ChangeSpec.witness6 (enc := enc) (C := Try.checked) false ⟨#[], #[.agg #[.slice none 0 0], .slice none 0 0], []⟩ 8 (by kernel_rfl) (by kernel_rfl) (by kernel_rfl) (by kernel_rfl)) rfl (by kernel_rfl) (by kernel_rfl) storeKeeps_laid storeKeeps_rd storeKeeps_tys ?_ storeKeeps_law
  intro ds hds
  rw [show Try.f4.params.toList.length = 2 from by kernel_rfl] at hds
  match ds, hds with
  | [d0, d1], _ => rfl
theorem storeKeeps_cl : Try.prog.closure 4 = [4, 22, 33, 24, 25, 38, 72, 103, 73, 69, 97, 67, 66, 95, 131, 144, 149, 148, 150, 152, 151, 153, 156, 160, 161, 162, 163, 164, 168, 169, 170, 171, 172, 166, 154, 157, 165, 167, 173, 174, 155, 159, 158, 132, 98, 106, 64, 65, 94, 68, 96, 30, 27, 37, 23] := by kernel_rfl
theorem storeKeeps_in : Rows.storeKeepsRow.inPlace = Try.prog.inPlace 4 := by unfold Program.inPlace; rw [storeKeeps_cl]; kernel_rfl
theorem storeKeeps_un : Rows.storeKeepsRow.unfollowed = Try.prog.unfollowed 4 := by unfold Program.unfollowed; rw [storeKeeps_cl]; kernel_rfl
theorem storeKeeps_re : Rows.storeKeepsRow.recurses = Try.prog.recurses 4 := by unfold Program.recurses; rw [← storeKeeps_un]; rfl
theorem storeKeeps_na : Rows.storeKeepsRow.named = Try.prog.varsNamed 4 := by unfold Program.varsNamed; rw [storeKeeps_cl]; kernel_rfl
theorem storeKeeps_mr : mapsRowed Try.prog = true := by kernel_rfl
theorem storeKeeps_jf : joinedFacts Try.prog 4 Try.f4 Rows.storeKeepsSpec Rows.storeKeepsRow = true := by unfold joinedFacts; rw [storeKeeps_laid, storeKeeps_mr, ← storeKeeps_in, ← storeKeeps_un, ← storeKeeps_re, ← storeKeeps_na]; kernel_rfl
theorem storeKeeps_over : Rows.storeKeepsRow.holds Try.pinned (OpenSpec.ofChange Rows.storeKeepsSpec) :=
  OpenClaim.holds_of_wide 4 Try.f4 rfl rfl rfl rfl rfl rfl rfl ⟨rfl, rfl, rfl, rfl, rfl⟩ rfl rfl rfl rfl rfl (by kernel_rfl) Try.func4 storeKeeps_jf
    (of_decide_eq_true (by kernel_rfl)) (by unfold Func.isWrapper; first | (rw [if_pos (by decide +kernel)]; kernel_rfl) | (rw [if_neg (by decide +kernel)]; exact ⟨rfl, rfl⟩))
    (fun os started H enc _ => storeKeeps_lifted os started H enc)
end Go.Proofs.Ytelobmiooldoaaa.Abs
namespace Go.Proofs.Ytelobmiooldoaaa
/-- The statement. -/
theorem storeKeeps_holds : Rows.StoreKeepsSaid := Abs.storeKeeps_over
#print axioms storeKeeps_holds
end Go.Proofs.Ytelobmiooldoaaa
