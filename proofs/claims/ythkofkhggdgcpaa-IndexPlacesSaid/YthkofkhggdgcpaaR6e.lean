/- IndexPlaces: whatever comes in it answers true, and what came in reads as it did. Conditions: none. -/
import Derived.Test.YthkofkhggdgcpaaIW
import Derived.Test.YthkofkhggdgcpaaPJ6
import Derived.Test.YthkofkhggdgcpaaRows
import Derived.Test.YthkofkhggdgcpaaAbs6
import Derived.JoinedOf
import Derived.OpenShut
namespace Go.Proofs.Ythkofkhggdgcpaa.Abs
open Go Go.RowKit Go.ChangeShapes Go.WideShapes Go.ChangeAt
set_option linter.unusedVariables false
set_option maxRecDepth 100000
theorem indexPlaces_law (xs : List D) (h : Ty.oks [.int .i64, .lst 8 (.int .i64), .lst 8 (.int .i64), .lst 24 (.lst 8 (.int .i64)), .int .i64] xs) : EvF Try.prog 5 xs (.d (.bool true)) := by
  obtain ⟨x0, ys, rfl, h0, h⟩ := oks_1 h
  obtain ⟨x1, ys, rfl, h1, h⟩ := oks_1 h
  obtain ⟨x2, ys, rfl, h2, h⟩ := oks_1 h
  obtain ⟨x3, ys, rfl, h3, h⟩ := oks_1 h
  obtain ⟨x4, ys, rfl, h4, h⟩ := oks_1 h
  obtain rfl := oks_0 h
  obtain ⟨a0, rfl, k0⟩ := ok_int h0
  obtain ⟨a1, rfl, b1, k1⟩ := ok_ints h1
  obtain ⟨a2, rfl, b2, k2⟩ := ok_ints h2
  obtain ⟨a3, rfl, b3, k3⟩ := ok_intss h3
  obtain ⟨a4, rfl, k4⟩ := ok_int h4
  exact ok_thrumlaw06_IndexPlaces a0 a1 a2 a3 a4 true (IndexPlaces_true a0 a1 a2 a3 a4 (by omega) (by omega) (by omega) (fun x hx => by have := (k3 x hx).1; omega))
theorem indexPlaces_own : ownKnob Try.prog.godebug = none := by kernel_rfl
theorem indexPlaces_laid : laidOutB Try.prog = true := by kernel_rfl
theorem indexPlaces_tys : valTys Try.prog Try.f5.params.toList = some [.int .i64, .lst 8 (.int .i64), .lst 8 (.int .i64), .lst 24 (.lst 8 (.int .i64)), .int .i64] := by kernel_rfl
theorem indexPlaces_rd : Try.f5.params.toList.all (fun t => Try.prog.readableRec t && decide (t < Try.prog.types.size)) = true := by kernel_rfl
theorem indexPlaces_lifted (os : Os) (started : os.Started) (H : Type) (enc : TypeId × Value → H) : ReturnsInHanded {} Try.checked os 5 .any (Rows.indexPlacesSpec.pre6 enc Try.prog Try.f5 Rows.indexPlacesRow.domain false) (Rows.indexPlacesSpec.post enc Try.prog Try.f5 false true false false) := by
  refine lift_law (C := Try.checked) (tb := 4) (ys := [.int .i64, .lst 8 (.int .i64), .lst 8 (.int .i64), .lst 24 (.lst 8 (.int .i64)), .int .i64]) indexPlaces_own started (by kernel_rfl) Try.func5
    (ChangeSpec.witness6 (enc := enc) (C := Try.checked) false ⟨#[], #[.int .i64 0, .slice none 0 0, .slice none 0 0, .slice none 0 0, .int .i64 0], []⟩ 8 (by kernel_rfl) (by kernel_rfl) (by kernel_rfl) (by kernel_rfl)) rfl (by kernel_rfl) (by kernel_rfl) indexPlaces_laid indexPlaces_rd indexPlaces_tys ?_ indexPlaces_law
  intro ds hds
  rw [show Try.f5.params.toList.length = 5 from by kernel_rfl] at hds
  match ds, hds with
  | [d0, d1, d2, d3, d4], _ => rfl
theorem indexPlaces_cl : Try.prog.closure 5 = [5, 6, 21, 24, 36, 31, 35, 44, 45, 22, 37, 23, 10, 7, 13, 14, 30, 29, 15, 33, 32, 43, 16, 8, 17, 34, 18, 9, 25, 38, 26, 40, 54, 55, 39, 46, 41, 56, 47, 57, 48, 58, 59, 49, 60, 61, 62, 50, 51, 52, 53, 27, 19, 12, 11, 28, 42, 20] := by kernel_rfl
theorem indexPlaces_in : Rows.indexPlacesRow.inPlace = Try.prog.inPlace 5 := by unfold Program.inPlace; rw [indexPlaces_cl]; kernel_rfl
theorem indexPlaces_un : Rows.indexPlacesRow.unfollowed = Try.prog.unfollowed 5 := by unfold Program.unfollowed; rw [indexPlaces_cl]; kernel_rfl
theorem indexPlaces_re : Rows.indexPlacesRow.recurses = Try.prog.recurses 5 := by unfold Program.recurses; rw [← indexPlaces_un]; rfl
theorem indexPlaces_na : Rows.indexPlacesRow.named = Try.prog.varsNamed 5 := by unfold Program.varsNamed; rw [indexPlaces_cl]; kernel_rfl
theorem indexPlaces_mr : mapsRowed Try.prog = true := by kernel_rfl
theorem indexPlaces_jf : joinedFacts Try.prog 5 Try.f5 Rows.indexPlacesSpec Rows.indexPlacesRow = true := by unfold joinedFacts; rw [indexPlaces_laid, indexPlaces_mr, ← indexPlaces_in, ← indexPlaces_un, ← indexPlaces_re, ← indexPlaces_na]; kernel_rfl
theorem indexPlaces_over : Rows.indexPlacesRow.holds Try.pinned (OpenSpec.ofChange Rows.indexPlacesSpec) :=
  OpenClaim.holds_of_wide 5 Try.f5 rfl rfl rfl rfl rfl rfl rfl ⟨rfl, rfl, rfl, rfl, rfl⟩ rfl rfl rfl rfl rfl (by kernel_rfl) Try.func5 indexPlaces_jf
    (of_decide_eq_true (by kernel_rfl)) (by unfold Func.isWrapper; first | (rw [if_pos (by decide +kernel)]; kernel_rfl) | (rw [if_neg (by decide +kernel)]; exact ⟨rfl, rfl⟩))
    (fun os started H enc _ => indexPlaces_lifted os started H enc)
end Go.Proofs.Ythkofkhggdgcpaa.Abs
namespace Go.Proofs.Ythkofkhggdgcpaa
/-- The statement. -/
theorem indexPlaces_holds : Rows.IndexPlacesSaid := Abs.indexPlaces_over
#print axioms indexPlaces_holds
end Go.Proofs.Ythkofkhggdgcpaa
