/- IndexMerges: whatever comes in it answers true, and what came in reads as it did. Conditions: none. -/
import Derived.Test.YtelobmiooldoaaaIW
import Derived.Test.YtelobmiooldoaaaPJ7
import Derived.Test.YtelobmiooldoaaaRows
import Derived.Test.YtelobmiooldoaaaAbs6
import Derived.JoinedOf
import Derived.OpenShut
namespace Go.Proofs.Ytelobmiooldoaaa.Abs
open Go Go.RowKit Go.ChangeShapes Go.WideShapes Go.ChangeAt
set_option linter.unusedVariables false
set_option maxRecDepth 100000
theorem indexMerges_law (xs : List D) (h : Ty.oks [.lst 24 (.lst 8 (.int .i64))] xs) : EvF Try.prog 6 xs (.d (.bool true)) := by
  obtain ⟨x0, ys, rfl, h0, h⟩ := oks_1 h
  obtain rfl := oks_0 h
  obtain ⟨a0, rfl, b0, k0⟩ := ok_intss h0
  exact ok_thrumlaw06_IndexMerges a0 true (IndexMerges_true a0 (by omega) (fun x hx => by have := (k0 x hx).1; omega))
theorem indexMerges_own : ownKnob Try.prog.godebug = none := by kernel_rfl
theorem indexMerges_laid : laidOutB Try.prog = true := by kernel_rfl
theorem indexMerges_tys : valTys Try.prog Try.f6.params.toList = some [.lst 24 (.lst 8 (.int .i64))] := by kernel_rfl
theorem indexMerges_rd : Try.f6.params.toList.all (fun t => Try.prog.readableRec t && decide (t < Try.prog.types.size)) = true := by kernel_rfl
theorem indexMerges_lifted (os : Os) (started : os.Started) (H : Type) (enc : TypeId × Value → H) : ReturnsInHanded {} Try.checked os 6 .any (Rows.indexMergesSpec.pre6 enc Try.prog Try.f6 Rows.indexMergesRow.domain false) (Rows.indexMergesSpec.post enc Try.prog Try.f6 false true false false) := by
  refine lift_law (C := Try.checked) (tb := 4) (ys := [.lst 24 (.lst 8 (.int .i64))]) indexMerges_own started (by kernel_rfl) Try.func6
    (ChangeSpec.witness6 (enc := enc) (C := Try.checked) false ⟨#[], #[.slice none 0 0], []⟩ 8 (by kernel_rfl) (by kernel_rfl) (by kernel_rfl) (by kernel_rfl)) rfl (by kernel_rfl) (by kernel_rfl) indexMerges_laid indexMerges_rd indexMerges_tys ?_ indexMerges_law
  intro ds hds
  rw [show Try.f6.params.toList.length = 1 from by kernel_rfl] at hds
  match ds, hds with
  | [d0], _ => rfl
theorem indexMerges_cl : Try.prog.closure 6 = [6, 41, 76, 104, 105, 91, 68, 66, 96, 77, 106, 37, 18, 42, 43, 78, 107, 51, 85, 118, 119, 84, 110, 108, 129, 111, 136, 112, 137, 138, 113, 139, 140, 146, 114, 115, 116, 117, 79, 44, 80, 109, 45, 81] := by kernel_rfl
theorem indexMerges_in : Rows.indexMergesRow.inPlace = Try.prog.inPlace 6 := by unfold Program.inPlace; rw [indexMerges_cl]; kernel_rfl
theorem indexMerges_un : Rows.indexMergesRow.unfollowed = Try.prog.unfollowed 6 := by unfold Program.unfollowed; rw [indexMerges_cl]; kernel_rfl
theorem indexMerges_re : Rows.indexMergesRow.recurses = Try.prog.recurses 6 := by unfold Program.recurses; rw [← indexMerges_un]; rfl
theorem indexMerges_na : Rows.indexMergesRow.named = Try.prog.varsNamed 6 := by unfold Program.varsNamed; rw [indexMerges_cl]; kernel_rfl
theorem indexMerges_mr : mapsRowed Try.prog = true := by kernel_rfl
theorem indexMerges_jf : joinedFacts Try.prog 6 Try.f6 Rows.indexMergesSpec Rows.indexMergesRow = true := by unfold joinedFacts; rw [indexMerges_laid, indexMerges_mr, ← indexMerges_in, ← indexMerges_un, ← indexMerges_re, ← indexMerges_na]; kernel_rfl
theorem indexMerges_over : Rows.indexMergesRow.holds Try.pinned (OpenSpec.ofChange Rows.indexMergesSpec) :=
  OpenClaim.holds_of_wide 6 Try.f6 rfl rfl rfl rfl rfl rfl rfl ⟨rfl, rfl, rfl, rfl, rfl⟩ rfl rfl rfl rfl rfl (by kernel_rfl) Try.func6 indexMerges_jf
    (of_decide_eq_true (by kernel_rfl)) (by unfold Func.isWrapper; first | (rw [if_pos (by decide +kernel)]; kernel_rfl) | (rw [if_neg (by decide +kernel)]; exact ⟨rfl, rfl⟩))
    (fun os started H enc _ => indexMerges_lifted os started H enc)
end Go.Proofs.Ytelobmiooldoaaa.Abs
namespace Go.Proofs.Ytelobmiooldoaaa
/-- The statement. -/
theorem indexMerges_holds : Rows.IndexMergesSaid := Abs.indexMerges_over
#print axioms indexMerges_holds
end Go.Proofs.Ytelobmiooldoaaa
