/- PressPresses: whatever comes in it answers true, and what came in reads as it did. Conditions: none. -/
import Derived.Test.YtdgdgfckcnjpfaaGreatPW
import Derived.Test.YtdgdgfckcnjpfaaGreatPW3
import Derived.Test.YtdgdgfckcnjpfaaGreatRows
import Derived.Test.YtdgdgfckcnjpfaaGreatAbs6
import Derived.JoinedOf
import Derived.OpenShut
namespace Go.Proofs.YtdgdgfckcnjpfaaGreat.Abs
open Go Go.RowKit Go.ChangeShapes Go.WideShapes Go.ChangeAt
set_option linter.unusedVariables false
set_option maxRecDepth 100000
theorem pressPresses_law (xs : List D) (h : Ty.oks [.agg [.int .i64, .int .i64, .int .i64], .lst 8 (.int .i64), .lst 8 (.int .i64), .int .u64, .lst 8 (.int .i64), .int .i64] xs) : EvF Tryz.prog 3 xs (.d (.bool true)) := by
  obtain ⟨x0, ys, rfl, h0, h⟩ := oks_1 h
  obtain ⟨x1, ys, rfl, h1, h⟩ := oks_1 h
  obtain ⟨x2, ys, rfl, h2, h⟩ := oks_1 h
  obtain ⟨x3, ys, rfl, h3, h⟩ := oks_1 h
  obtain ⟨x4, ys, rfl, h4, h⟩ := oks_1 h
  obtain ⟨x5, ys, rfl, h5, h⟩ := oks_1 h
  obtain rfl := oks_0 h
  simp only [Ty.ok] at h0
  obtain ⟨c0, rfl, h0⟩ := h0
  obtain ⟨x0_0, ys, rfl, h0_0, h0⟩ := oks_1 h0
  obtain ⟨x0_1, ys, rfl, h0_1, h0⟩ := oks_1 h0
  obtain ⟨x0_2, ys, rfl, h0_2, h0⟩ := oks_1 h0
  obtain rfl := oks_0 h0
  obtain ⟨a0_0, rfl, k0_0⟩ := ok_int h0_0
  obtain ⟨a0_1, rfl, k0_1⟩ := ok_int h0_1
  obtain ⟨a0_2, rfl, k0_2⟩ := ok_int h0_2
  obtain ⟨a1, rfl, b1, k1⟩ := ok_ints h1
  obtain ⟨a2, rfl, b2, k2⟩ := ok_ints h2
  obtain ⟨a3, rfl, k3⟩ := ok_int h3
  obtain ⟨a4, rfl, b4, k4⟩ := ok_ints h4
  obtain ⟨a5, rfl, k5⟩ := ok_int h5
  exact ok_thrumlaw12_PressPresses ⟨a0_0, a0_1, a0_2⟩ a1 a2 a3 a4 a5 true (PressPresses_true _ a1 a2 a3 a4 a5 (fun x hx => InK_i64 (k1 x hx)) (fun x hx => InK_i64 (k2 x hx)) (by omega))
theorem pressPresses_own : ownKnob Tryz.prog.godebug = none := by kernel_rfl
theorem pressPresses_laid : laidOutB Tryz.prog = true := by kernel_rfl
theorem pressPresses_tys : valTys Tryz.prog Tryz.f3.params.toList = some [.agg [.int .i64, .int .i64, .int .i64], .lst 8 (.int .i64), .lst 8 (.int .i64), .int .u64, .lst 8 (.int .i64), .int .i64] := by kernel_rfl
theorem pressPresses_rd : Tryz.f3.params.toList.all (fun t => Tryz.prog.readableRec t && decide (t < Tryz.prog.types.size)) = true := by kernel_rfl
theorem pressPresses_lifted (os : Os) (started : os.Started) (H : Type) (enc : TypeId × Value → H) : ReturnsInHanded {} Tryz.checked os 3 .any (Rows.pressPressesSpec.pre6 enc Tryz.prog Tryz.f3 Rows.pressPressesRow.domain false) (Rows.pressPressesSpec.post enc Tryz.prog Tryz.f3 false true false false) := by
  refine lift_law (C := Tryz.checked) (tb := 4) (ys := [.agg [.int .i64, .int .i64, .int .i64], .lst 8 (.int .i64), .lst 8 (.int .i64), .int .u64, .lst 8 (.int .i64), .int .i64]) pressPresses_own started (by kernel_rfl) Tryz.func3
    (ChangeSpec.witness6 (enc := enc) (C := Tryz.checked) false ⟨#[], #[.agg #[.int .i64 0, .int .i64 0, .int .i64 0], .slice none 0 0, .slice none 0 0, .int .u64 0, .slice none 0 0, .int .i64 0], []⟩ 8 (by kernel_rfl) (by kernel_rfl) (by kernel_rfl) (by kernel_rfl)) rfl (by kernel_rfl) (by kernel_rfl) pressPresses_laid pressPresses_rd pressPresses_tys ?_ pressPresses_law
  intro ds hds
  rw [show Tryz.f3.params.toList.length = 6 from by kernel_rfl] at hds
  match ds, hds with
  | [d0, d1, d2, d3, d4, d5], _ => rfl
theorem pressPresses_cl : Tryz.prog.closure 3 = [3, 9, 13, 30, 57, 59, 60, 58, 11, 33, 17, 34, 69, 70, 72, 71, 73, 47, 74, 75, 76, 129, 172, 198, 173, 199, 174, 175, 200, 176, 177, 202, 219, 190, 201, 210, 216, 230, 211, 225, 212, 226, 227, 213, 228, 229, 236, 214, 215, 217, 218, 130, 178, 180, 179, 203, 77, 78, 131, 181, 79, 80, 132, 81, 82, 83, 133, 134, 46, 104, 103, 135, 182, 183, 184, 204, 137, 136, 185, 205, 220, 231, 221, 84, 42, 100, 153, 154, 152, 189, 101, 155, 145, 138, 85, 86, 139, 87, 88, 140, 21, 45, 44, 141, 142, 89, 144, 143, 90, 91, 20, 19, 43, 102, 16, 10, 12, 18, 35, 92, 146, 186, 149, 147, 187, 36, 93, 94, 148, 188, 108, 95, 96, 150, 37, 97, 151, 99, 14, 38, 98, 25, 24, 48, 105, 156, 106, 49, 107, 50, 51, 15, 39, 40, 41] := by kernel_rfl
theorem pressPresses_in : Rows.pressPressesRow.inPlace = Tryz.prog.inPlace 3 := by unfold Program.inPlace; rw [pressPresses_cl]; kernel_rfl
theorem pressPresses_un : Rows.pressPressesRow.unfollowed = Tryz.prog.unfollowed 3 := by unfold Program.unfollowed; rw [pressPresses_cl]; kernel_rfl
theorem pressPresses_re : Rows.pressPressesRow.recurses = Tryz.prog.recurses 3 := by unfold Program.recurses; rw [← pressPresses_un]; rfl
theorem pressPresses_na : Rows.pressPressesRow.named = Tryz.prog.varsNamed 3 := by unfold Program.varsNamed; rw [pressPresses_cl]; kernel_rfl
theorem pressPresses_mr : mapsRowed Tryz.prog = true := by kernel_rfl
theorem pressPresses_jf : joinedFacts Tryz.prog 3 Tryz.f3 Rows.pressPressesSpec Rows.pressPressesRow = true := by unfold joinedFacts; rw [pressPresses_laid, pressPresses_mr, ← pressPresses_in, ← pressPresses_un, ← pressPresses_re, ← pressPresses_na]; kernel_rfl
theorem pressPresses_over : Rows.pressPressesRow.holds Tryz.pinned (OpenSpec.ofChange Rows.pressPressesSpec) :=
  OpenClaim.holds_of_wide 3 Tryz.f3 rfl rfl rfl rfl rfl rfl rfl ⟨rfl, rfl, rfl, rfl, rfl⟩ rfl rfl rfl rfl rfl (by kernel_rfl) Tryz.func3 pressPresses_jf
    (of_decide_eq_true (by kernel_rfl)) (by unfold Func.isWrapper; first | (rw [if_pos (by decide +kernel)]; kernel_rfl) | (rw [if_neg (by decide +kernel)]; exact ⟨rfl, rfl⟩))
    (fun os started H enc _ => pressPresses_lifted os started H enc)
end Go.Proofs.YtdgdgfckcnjpfaaGreat.Abs
namespace Go.Proofs.YtdgdgfckcnjpfaaGreat
/-- The statement. -/
theorem pressPresses_holds : Rows.PressPressesSaid := Abs.pressPresses_over
#print axioms pressPresses_holds
end Go.Proofs.YtdgdgfckcnjpfaaGreat
