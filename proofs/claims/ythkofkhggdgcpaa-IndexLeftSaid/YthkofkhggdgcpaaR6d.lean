/- IndexLeft: whatever comes in it answers true, and what came in reads as it did. Conditions: none. -/
import Derived.Test.YthkofkhggdgcpaaIW
import Derived.Test.YthkofkhggdgcpaaPJ3
import Derived.Test.YthkofkhggdgcpaaRows
import Derived.Test.YthkofkhggdgcpaaAbs6
import Derived.JoinedOf
import Derived.OpenShut
namespace Go.Proofs.Ythkofkhggdgcpaa.Abs
open Go Go.RowKit Go.ChangeShapes Go.WideShapes Go.ChangeAt
set_option linter.unusedVariables false
set_option maxRecDepth 100000
theorem indexLeft_law (xs : List D) (h : Ty.oks [.int .i64, .lst 8 (.int .i64)] xs) : EvF Try.prog 3 xs (.d (.bool true)) := by
  obtain ⟨x0, ys, rfl, h0, h⟩ := oks_1 h
  obtain ⟨x1, ys, rfl, h1, h⟩ := oks_1 h
  obtain rfl := oks_0 h
  obtain ⟨a0, rfl, k0⟩ := ok_int h0
  obtain ⟨a1, rfl, b1, k1⟩ := ok_ints h1
  exact ok_thrumlaw06_IndexLeft a0 a1 true (IndexLeft_true a0 a1 (by omega))
theorem indexLeft_own : ownKnob Try.prog.godebug = none := by kernel_rfl
theorem indexLeft_laid : laidOutB Try.prog = true := by kernel_rfl
theorem indexLeft_tys : valTys Try.prog Try.f3.params.toList = some [.int .i64, .lst 8 (.int .i64)] := by kernel_rfl
theorem indexLeft_rd : Try.f3.params.toList.all (fun t => Try.prog.readableRec t && decide (t < Try.prog.types.size)) = true := by kernel_rfl
theorem indexLeft_lifted (os : Os) (started : os.Started) (H : Type) (enc : TypeId × Value → H) : ReturnsInHanded {} Try.checked os 3 .any (Rows.indexLeftSpec.pre6 enc Try.prog Try.f3 Rows.indexLeftRow.domain false) (Rows.indexLeftSpec.post enc Try.prog Try.f3 false true false false) := by
  refine lift_law (C := Try.checked) (tb := 4) (ys := [.int .i64, .lst 8 (.int .i64)]) indexLeft_own started (by kernel_rfl) Try.func3
    (ChangeSpec.witness6 (enc := enc) (C := Try.checked) false ⟨#[], #[.int .i64 0, .slice none 0 0], []⟩ 8 (by kernel_rfl) (by kernel_rfl) (by kernel_rfl) (by kernel_rfl)) rfl (by kernel_rfl) (by kernel_rfl) indexLeft_laid indexLeft_rd indexLeft_tys ?_ indexLeft_law
  intro ds hds
  rw [show Try.f3.params.toList.length = 2 from by kernel_rfl] at hds
  match ds, hds with
  | [d0, d1], _ => rfl
theorem indexLeft_cl : Try.prog.closure 3 = [3, 6, 21, 24, 36, 31, 35, 44, 45, 22, 37, 23, 10, 7, 8, 9, 25, 38, 26, 40, 54, 55, 39, 46, 41, 56, 47, 57, 48, 58, 59, 49, 60, 61, 62, 50, 51, 52, 53, 27] := by kernel_rfl
theorem indexLeft_in : Rows.indexLeftRow.inPlace = Try.prog.inPlace 3 := by unfold Program.inPlace; rw [indexLeft_cl]; kernel_rfl
theorem indexLeft_un : Rows.indexLeftRow.unfollowed = Try.prog.unfollowed 3 := by unfold Program.unfollowed; rw [indexLeft_cl]; kernel_rfl
theorem indexLeft_re : Rows.indexLeftRow.recurses = Try.prog.recurses 3 := by unfold Program.recurses; rw [← indexLeft_un]; rfl
theorem indexLeft_na : Rows.indexLeftRow.named = Try.prog.varsNamed 3 := by unfold Program.varsNamed; rw [indexLeft_cl]; kernel_rfl
theorem indexLeft_mr : mapsRowed Try.prog = true := by kernel_rfl
theorem indexLeft_jf : joinedFacts Try.prog 3 Try.f3 Rows.indexLeftSpec Rows.indexLeftRow = true := by unfold joinedFacts; rw [indexLeft_laid, indexLeft_mr, ← indexLeft_in, ← indexLeft_un, ← indexLeft_re, ← indexLeft_na]; kernel_rfl
theorem indexLeft_over : Rows.indexLeftRow.holds Try.pinned (OpenSpec.ofChange Rows.indexLeftSpec) :=
  OpenClaim.holds_of_wide 3 Try.f3 rfl rfl rfl rfl rfl rfl rfl ⟨rfl, rfl, rfl, rfl, rfl⟩ rfl rfl rfl rfl rfl (by kernel_rfl) Try.func3 indexLeft_jf
    (of_decide_eq_true (by kernel_rfl)) (by unfold Func.isWrapper; first | (rw [if_pos (by decide +kernel)]; kernel_rfl) | (rw [if_neg (by decide +kernel)]; exact ⟨rfl, rfl⟩))
    (fun os started H enc _ => indexLeft_lifted os started H enc)
end Go.Proofs.Ythkofkhggdgcpaa.Abs
namespace Go.Proofs.Ythkofkhggdgcpaa
/-- The statement. -/
theorem indexLeft_holds : Rows.IndexLeftSaid := Abs.indexLeft_over
#print axioms indexLeft_holds
end Go.Proofs.Ythkofkhggdgcpaa
