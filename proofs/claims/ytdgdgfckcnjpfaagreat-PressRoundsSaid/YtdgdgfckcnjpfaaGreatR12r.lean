/- PressRounds: whatever comes in it answers true, and what came in reads as it did. Conditions: none. -/
import Derived.Test.YtdgdgfckcnjpfaaGreatDW
import Derived.Test.YtdgdgfckcnjpfaaGreatPV7
import Derived.Test.YtdgdgfckcnjpfaaGreatRows
import Derived.Test.YtdgdgfckcnjpfaaGreatAbs6
import Derived.JoinedOf
import Derived.OpenShut
namespace Go.Proofs.YtdgdgfckcnjpfaaGreat.Abs
open Go Go.RowKit Go.ChangeShapes Go.WideShapes Go.ChangeAt
set_option linter.unusedVariables false
set_option maxRecDepth 100000
theorem pressRounds_law (xs : List D) (h : Ty.oks [.lst 24 (.agg [.int .i64, .int .i64, .int .i64]), .lst 24 (.lst 8 (.int .i64)), .int .u64] xs) : EvF Tryz.prog 4 xs (.d (.bool true)) := by
  obtain ⟨x0, ys, rfl, h0, h⟩ := oks_1 h
  obtain ⟨x1, ys, rfl, h1, h⟩ := oks_1 h
  obtain ⟨x2, ys, rfl, h2, h⟩ := oks_1 h
  obtain rfl := oks_0 h
  obtain ⟨a0, rfl, b0, k0⟩ := ok_list (enc := T_api_How.en) (R := fun _ => True) (fun y hy => by simp only [Ty.ok] at hy; obtain ⟨cs, rfl, hy⟩ := hy; obtain ⟨z0, ys, rfl, hz0, hy⟩ := oks_1 hy; obtain ⟨z1, ys, rfl, hz1, hy⟩ := oks_1 hy; obtain ⟨z2, ys, rfl, hz2, hy⟩ := oks_1 hy; obtain rfl := oks_0 hy; obtain ⟨c0, rfl, kz0⟩ := ok_int hz0; obtain ⟨c1, rfl, kz1⟩ := ok_int hz1; obtain ⟨c2, rfl, kz2⟩ := ok_int hz2; exact ⟨⟨c0, c1, c2⟩, rfl, trivial⟩) h0
  obtain ⟨a1, rfl, b1, k1⟩ := ok_intss h1
  obtain ⟨a2, rfl, k2⟩ := ok_int h2
  exact ok_thrumlaw12_PressRounds a0 a1 a2 true (PressRounds_true a0 a1 a2 (by omega) (by omega) (fun v hv x hx => InK_i64 ((k1 v hv).2 x hx)))
theorem pressRounds_own : ownKnob Tryz.prog.godebug = none := by kernel_rfl
theorem pressRounds_laid : laidOutB Tryz.prog = true := by kernel_rfl
theorem pressRounds_tys : valTys Tryz.prog Tryz.f4.params.toList = some [.lst 24 (.agg [.int .i64, .int .i64, .int .i64]), .lst 24 (.lst 8 (.int .i64)), .int .u64] := by kernel_rfl
theorem pressRounds_rd : Tryz.f4.params.toList.all (fun t => Tryz.prog.readableRec t && decide (t < Tryz.prog.types.size)) = true := by kernel_rfl
theorem pressRounds_lifted (os : Os) (started : os.Started) (H : Type) (enc : TypeId × Value → H) : ReturnsInHanded {} Tryz.checked os 4 .any (Rows.pressRoundsSpec.pre6 enc Tryz.prog Tryz.f4 Rows.pressRoundsRow.domain false) (Rows.pressRoundsSpec.post enc Tryz.prog Tryz.f4 false true false false) := by
  refine lift_law (C := Tryz.checked) (tb := 4) (ys := [.lst 24 (.agg [.int .i64, .int .i64, .int .i64]), .lst 24 (.lst 8 (.int .i64)), .int .u64]) pressRounds_own started (by kernel_rfl) Tryz.func4
    (ChangeSpec.witness6 (enc := enc) (C := Tryz.checked) false ⟨#[], #[.slice none 0 0, .slice none 0 0, .int .u64 0], []⟩ 8 (by kernel_rfl) (by kernel_rfl) (by kernel_rfl) (by kernel_rfl)) rfl (by kernel_rfl) (by kernel_rfl) pressRounds_laid pressRounds_rd pressRounds_tys ?_ pressRounds_law
  intro ds hds
  rw [show Tryz.f4.params.toList.length = 3 from by kernel_rfl] at hds
  match ds, hds with
  | [d0, d1, d2], _ => rfl
theorem pressRounds_cl : Tryz.prog.closure 4 = [4, 9, 13, 30, 57, 59, 60, 58, 11, 33, 17, 34, 69, 70, 72, 71, 73, 47, 74, 75, 76, 129, 172, 198, 173, 199, 174, 175, 200, 176, 177, 202, 219, 190, 201, 210, 216, 230, 211, 225, 212, 226, 227, 213, 228, 229, 236, 214, 215, 217, 218, 130, 178, 180, 179, 203, 77, 78, 131, 181, 79, 80, 132, 81, 82, 83, 133, 134, 46, 104, 103, 135, 182, 183, 184, 204, 137, 136, 185, 205, 220, 231, 221, 84, 42, 100, 153, 154, 152, 189, 101, 155, 145, 138, 85, 86, 139, 87, 88, 140, 21, 45, 44, 141, 142, 89, 144, 143, 90, 91, 20, 19, 43, 102, 16, 10] := by kernel_rfl
theorem pressRounds_in : Rows.pressRoundsRow.inPlace = Tryz.prog.inPlace 4 := by unfold Program.inPlace; rw [pressRounds_cl]; kernel_rfl
theorem pressRounds_un : Rows.pressRoundsRow.unfollowed = Tryz.prog.unfollowed 4 := by unfold Program.unfollowed; rw [pressRounds_cl]; kernel_rfl
theorem pressRounds_re : Rows.pressRoundsRow.recurses = Tryz.prog.recurses 4 := by unfold Program.recurses; rw [← pressRounds_un]; rfl
theorem pressRounds_na : Rows.pressRoundsRow.named = Tryz.prog.varsNamed 4 := by unfold Program.varsNamed; rw [pressRounds_cl]; kernel_rfl
theorem pressRounds_mr : mapsRowed Tryz.prog = true := by kernel_rfl
theorem pressRounds_jf : joinedFacts Tryz.prog 4 Tryz.f4 Rows.pressRoundsSpec Rows.pressRoundsRow = true := by unfold joinedFacts; rw [pressRounds_laid, pressRounds_mr, ← pressRounds_in, ← pressRounds_un, ← pressRounds_re, ← pressRounds_na]; kernel_rfl
theorem pressRounds_over : Rows.pressRoundsRow.holds Tryz.pinned (OpenSpec.ofChange Rows.pressRoundsSpec) :=
  OpenClaim.holds_of_wide 4 Tryz.f4 rfl rfl rfl rfl rfl rfl rfl ⟨rfl, rfl, rfl, rfl, rfl⟩ rfl rfl rfl rfl rfl (by kernel_rfl) Tryz.func4 pressRounds_jf
    (of_decide_eq_true (by kernel_rfl)) (by unfold Func.isWrapper; first | (rw [if_pos (by decide +kernel)]; kernel_rfl) | (rw [if_neg (by decide +kernel)]; exact ⟨rfl, rfl⟩))
    (fun os started H enc _ => pressRounds_lifted os started H enc)
end Go.Proofs.YtdgdgfckcnjpfaaGreat.Abs
namespace Go.Proofs.YtdgdgfckcnjpfaaGreat
/-- The statement. -/
theorem pressRounds_holds : Rows.PressRoundsSaid := Abs.pressRounds_over
#print axioms pressRounds_holds
end Go.Proofs.YtdgdgfckcnjpfaaGreat
