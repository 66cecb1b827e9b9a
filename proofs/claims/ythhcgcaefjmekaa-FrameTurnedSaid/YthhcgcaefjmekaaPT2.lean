/- Plain facts on frames: a frame of which bits were turned is none. Conditions: none. -/
import Derived.Test.YthhcgcaefjmekaaPT1
namespace Go.Proofs.Ythhcgcaefjmekaa.Abs
open Go Go.RowKit Go.IntWalk Crc
set_option linter.unusedVariables false
set_option linter.unnecessarySimpa false
set_option linter.unusedSimpArgs false
set_option maxRecDepth 100000

theorem FrameTurned_true (f : T_api_Frame) (x : Int) (p : Wd) (hf : FitV f.F_S) (hx0 : -9223372036854775808 ≤ x) (hx : x ≤ 9223372036854775807) : M_thrumlaw07_FrameTurned f x (Un p) = some true := by
  rw [M_thrumlaw07_FrameTurned, live7_eq, bindS, if_neg (by simp), if_neg (by simp), Big_eq, bindS]
  generalize hb1 : (decide ((f.F_S.F_L.length : Int) > 500) || decide ((f.F_S.F_V.length : Int) > 500) || decide ((f.F_S.F_Lev.length : Int) > 500) || decide ((f.F_S.F_Neg.length : Int) > 500)) = big1
  cases big1 with
  | true => rfl
  | false =>
  have n1 := big_no hb1
  have lf : frameOk f → (textP f).length ≤ 65532 := fun h => by have := textP_small hf h n1.v n1.l; omega
  rw [if_neg (by simp), Write_eq hf lf, bindS]
  by_cases hok : frameOk f
  rotate_left
  · rw [if_neg hok]; simp [bindS]
  rw [if_pos hok]
  dsimp only
  rw [if_neg (by simp)]
  have hread := read_C hf hok (lf hok)
  have hl := lf hok
  have hsl : (sealB (bytesL (textP f))).length = (textP f).length + 4 := by rw [sealB_len, bytesL_len]
  unfold sealI at hread ⊢
  have hbl : (bytesL (textP f)).length ≤ 65532 := by rw [bytesL_len]; exact hl
  have hall := seal_all (bytesL (textP f))
  generalize bytesL (textP f) = b at *
  have h1 : IntKind.i64.wrap (8 * (((sealB b).map Yn).length : Int)) = ((8 * (sealB b).length : Nat) : Int) := by
    rw [List.length_map, i64_in _ (by omega)]; omega
  rw [h1]
  generalize hM : 8 * (sealB b).length = M at h1
  have hM0 : 0 < M ∧ M ≤ 600000 := by omega
  rw [if_pos (by omega), bindS, if_pos (by omega)]
  have t1 : -(M : Int) < Int.tmod x (M : Int) ∧ Int.tmod x (M : Int) < (M : Int) := by
    refine ⟨Int.lt_tmod_of_pos x (by omega), Int.tmod_lt_of_pos x (by omega)⟩
  rw [i64_in _ (by omega)]
  obtain ⟨fr, h2, h3⟩ : ∃ fr : Nat, Int.tmod (Int.tmod x (M : Int) + (M : Int)) (M : Int) = (fr : Int) ∧ fr < M := by
    rw [Int.tmod_eq_emod_of_nonneg (by omega)]
    have g1 := Int.emod_nonneg (Int.tmod x (M : Int) + (M : Int)) (show (M : Int) ≠ 0 by omega)
    have g2 := Int.emod_lt_of_pos (Int.tmod x (M : Int) + (M : Int)) (show (0 : Int) < (M : Int) by omega)
    exact ⟨((Int.tmod x (M : Int) + (M : Int)) % (M : Int)).toNat, by omega, by omega⟩
  subst hM
  have inv0 : Inv (sealB b) p fr 0 false (sealB b) := by
    refine ⟨rfl, fun k hk => ?_, fun h => Bool.noConfusion h, fun _ => rfl⟩
    have h : (decide (fr ≤ k) && decide (k < fr + 0)) = false := by
      rw [← Bool.decide_and]; simp
    rw [h]; simp
  obtain ⟨met, t, r1, r2, r3, r4, r5⟩ := bursts_l0 (sealB b) p _ fr (by omega) h1 h2 h3 32 0 false (sealB b) (by omega) inv0
  rw [show ((0 : Nat) : Int) = 0 from rfl] at r1
  rw [r1]
  simp only [bindS]
  cases met with
  | false =>
    rw [r5 rfl, hread]
    simp [bindS]
  | true =>
    obtain ⟨j, hj, hjp, hjm⟩ := r4 rfl
    have h7 : (openB t).2 = 7 := by
      rw [openB, if_neg (by omega), if_neg (by omega), if_neg]
      intro hse
      refine burst_told (P := fun k => p.getLsbD k) r2 r3 hj hjp hjm ?_
      rw [← hse, seal_all, hall]
    have hr7 : M_frame_Read (t.map Yn) = some (0, 0, 0, 0, 0, [], [], 0, 0, [], [], 7) := by
      rw [M_frame_Read, open_eq _ (by omega), bindS, h7]; rfl
    rw [hr7]
    simp [bindS]
end Go.Proofs.Ythhcgcaefjmekaa.Abs
