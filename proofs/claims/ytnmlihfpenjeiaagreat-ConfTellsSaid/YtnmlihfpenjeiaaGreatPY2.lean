/- Plain facts: which runs may be (conf.Check). Conditions: none. -/
import Derived.Test.YtnmlihfpenjeiaaGreatPY1
import Derived.Test.YtnmlihfpenjeiaaGreatPY0
namespace Go.Proofs.YtnmlihfpenjeiaaGreat.Abs
open Go Go.RowKit Go.IntWalk
set_option linter.unusedVariables false
set_option linter.unusedSimpArgs false
set_option linter.unnecessarySimpa false
set_option maxRecDepth 100000

theorem within_eq (a b c : Int) : M_conf_within_int a b c = some (decide (b ≤ a ∧ a ≤ c)) := by
  rw [M_conf_within_int, andB]; congr 1; simp
theorem within64_eq (a b c : Int) : M_conf_within_int64 a b c = some (decide (b ≤ a ∧ a ≤ c)) := by
  rw [M_conf_within_int64, andB]; congr 1; simp
/-- The bits behind the point: one. -/
abbrev oneF (m : T_api_Model) : Int := sShl .i64 1 m.F_Frac
/-- May a run be? -/
def confOk (c : T_api_Conf) : Prop := modOk c.F_M ∧ wayOk c.F_H (dimN c.F_M) ∧ ((1 ≤ c.F_N ∧ c.F_N ≤ 64) ∧ (0 ≤ c.F_Warm ∧ c.F_Warm ≤ 1048576) ∧ (0 ≤ c.F_Rate ∧ c.F_Rate ≤ oneF c.F_M) ∧ (0 ≤ c.F_Mom ∧ c.F_Mom ≤ oneF c.F_M) ∧ 0 ≤ c.F_Clip) ∧ (c.F_L.length ≤ 256 ∧ 1 ≤ c.F_Batch ∧ c.F_Batch ≤ 64 ∧ c.F_Batch ≤ (c.F_L.length : Int)) ∧ (∀ s ∈ c.F_L, goes c.F_M s = true)
instance (c : T_api_Conf) : Decidable (confOk c) := by unfold confOk; infer_instance

theorem fitsC_l0 {m : T_api_Model} (hm : modOk m) (w : List Int) (hw : (w.length : Int) = dimN m) (l : List T_api_Sample) (hl : l.length ≤ 4398046511000) (a1 a7 a8 a9 a10 a11 a12 a13 a14 a15 : Int) (a16 : List T_api_Sample) :
    ∀ (t : List T_api_Sample) (k : Nat), l.drop k = t → ∃ r, M_slices_IndexFunc_thrum_api_Sample_thrum_api_Sample_conf_Check_1_l0 l a1 m.F_Kind m.F_In m.F_Out m.F_Hid m.F_Frac a7 a8 a9 a10 a11 a12 a13 a14 a15 a16 w (k : Int) = some r ∧ (t.all (goes m) = true ∧ r = .inr () ∨ t.all (goes m) = false ∧ ∃ j : Nat, r = .inl (j : Int))
  | [], k, h => ⟨_, by rw [M_slices_IndexFunc_thrum_api_Sample_thrum_api_Sample_conf_Check_1_l0, if_neg (drop_end h)], .inl ⟨rfl, rfl⟩⟩
  | x :: t, k, h => by
    obtain ⟨g1, g2, g3⟩ := drop_at h
    obtain ⟨e, f1, f2⟩ := fits_eq hm hw x
    rw [M_slices_IndexFunc_thrum_api_Sample_thrum_api_Sample_conf_Check_1_l0, if_pos g1, if_pos ⟨by omega, g1⟩, g2, M_conf_Check_1_c_c, f1, bindS, bindS]
    by_cases he : e = 0
    · obtain ⟨r, h1, h2⟩ := fitsC_l0 hm w hw l hl a1 a7 a8 a9 a10 a11 a12 a13 a14 a15 a16 t (k + 1) g3
      rw [if_neg (by simp [he]), i64_s (by omega), h1]
      refine ⟨r, rfl, ?_⟩
      rw [List.all_cons, f2.1 he, Bool.true_and]; exact h2
    · rw [if_pos (by simpa using he)]
      refine ⟨_, rfl, .inr ⟨?_, k, rfl⟩⟩
      have : goes m x = false := by cases hg : goes m x with
        | true => exact absurd (f2.2 hg) he
        | false => rfl
      rw [List.all_cons, this]; rfl
theorem fitsC_eq {m : T_api_Model} (hm : modOk m) (w : List Int) (hw : (w.length : Int) = dimN m) (l : List T_api_Sample) (hl : l.length ≤ 4398046511000) (a1 a7 a8 a9 a10 a11 a12 a13 a14 a15 : Int) (a16 : List T_api_Sample) :
    M_slices_ContainsFunc_thrum_api_Sample_thrum_api_Sample_conf_Check_1 l a1 m.F_Kind m.F_In m.F_Out m.F_Hid m.F_Frac a7 a8 a9 a10 a11 a12 a13 a14 a15 a16 w = some (!(l.all (goes m))) := by
  obtain ⟨r, h1, h2⟩ := fitsC_l0 hm w hw l hl a1 a7 a8 a9 a10 a11 a12 a13 a14 a15 a16 l 0 rfl
  rw [show ((0 : Nat) : Int) = 0 from rfl] at h1
  rw [M_slices_ContainsFunc_thrum_api_Sample_thrum_api_Sample_conf_Check_1, M_slices_IndexFunc_thrum_api_Sample_thrum_api_Sample_conf_Check_1, h1, bindS]
  rcases h2 with ⟨h2, rfl⟩ | ⟨h2, j, rfl⟩
  · simp [bindS, h2]
  · simp [bindS, h2]

theorem confChk_eq (c : T_api_Conf) (hl : c.F_L.length ≤ 4398046511000) : M_conf_Check c = some (if confOk c then 0 else 1) := by
  rw [M_conf_Check, mDim_eq, bindS]
  by_cases hm : modOk c.F_M
  rotate_left
  · rw [if_neg hm, if_pos (by simp), bindS, if_pos rfl, if_neg (fun h => hm h.1)]
  rw [if_pos hm, if_neg (by simp)]
  simp only
  rw [pCheck_eq, bindS, bindS]
  by_cases hh : wayOk c.F_H (dimN c.F_M)
  rotate_left
  · rw [if_neg hh, if_pos (by simp), if_neg (fun h => hh h.2.1)]
  rw [if_pos hh, if_neg (by simp), if_pos hm.2.1.1]
  simp only [within_eq, within64_eq, bindS, orB]
  by_cases hA : (1 ≤ c.F_N ∧ c.F_N ≤ 64) ∧ (0 ≤ c.F_Warm ∧ c.F_Warm ≤ 1048576) ∧ (0 ≤ c.F_Rate ∧ c.F_Rate ≤ oneF c.F_M) ∧ (0 ≤ c.F_Mom ∧ c.F_Mom ≤ oneF c.F_M) ∧ 0 ≤ c.F_Clip
  rotate_left
  · rw [if_pos (by simp only [Bool.or_eq_true, Bool.not_eq_true', decide_eq_false_iff_not, decide_eq_true_eq]; unfold oneF at hA; omega), if_neg (fun h => hA h.2.2.1)]
  rw [if_neg (by simp only [Bool.or_eq_true, Bool.not_eq_true', decide_eq_false_iff_not, decide_eq_true_eq]; unfold oneF at hA; omega)]
  by_cases hB : c.F_L.length ≤ 256 ∧ 1 ≤ c.F_Batch ∧ c.F_Batch ≤ 64 ∧ c.F_Batch ≤ (c.F_L.length : Int)
  rotate_left
  · rw [if_pos (by simp only [Bool.or_eq_true, Bool.not_eq_true', decide_eq_false_iff_not, decide_eq_true_eq]; split <;> omega), if_neg (fun h => hB h.2.2.2.1)]
  have hd := dimN_in hm
  rw [if_neg (by simp only [Bool.or_eq_true, Bool.not_eq_true', decide_eq_false_iff_not, decide_eq_true_eq]; split <;> omega), if_pos ⟨by omega, by omega, by omega, by omega⟩, fitsC_eq hm _ (by simp; omega) _ hl, bindS]
  by_cases hg : ∀ s ∈ c.F_L, goes c.F_M s = true
  · rw [if_neg (by rw [List.all_eq_true.2 hg]; simp), if_pos ⟨hm, hh, hA, hB, hg⟩]
  · rw [if_pos (by cases h : c.F_L.all (goes c.F_M) with
      | true => exact absurd (List.all_eq_true.1 h) hg
      | false => rfl), if_neg (fun h => hg h.2.2.2.2)]

theorem few18_l0 (c : T_api_Conf) (hl : c.F_L.length ≤ 4398046511000) : ∀ (t : List T_api_Sample) (k : Nat), c.F_L.drop k = t → ∃ r, M_thrumref18_Few_l0 c (k : Int) = some r ∧ (r = .inl false ∨ r = .inr ())
  | [], k, h => ⟨_, by rw [M_thrumref18_Few_l0, if_neg (drop_end h)], .inr rfl⟩
  | x :: t, k, h => by
    obtain ⟨g1, g2, g3⟩ := drop_at h
    rw [M_thrumref18_Few_l0, if_pos g1, if_pos ⟨by omega, g1⟩]
    split
    · exact ⟨_, rfl, .inl rfl⟩
    · rw [i64_s (by omega)]; exact few18_l0 c hl t (k + 1) g3
theorem few18_eq (c : T_api_Conf) (hl : c.F_L.length ≤ 4398046511000) : ∃ b, M_thrumref18_Few c = some b ∧ (b = true → c.F_L.length ≤ 300) := by
  obtain ⟨r, h1, h2⟩ := few18_l0 c hl c.F_L 0 rfl
  rw [show ((0 : Nat) : Int) = 0 from rfl] at h1
  rw [M_thrumref18_Few, h1, bindS]
  rcases h2 with rfl | rfl
  · exact ⟨false, rfl, by simp⟩
  · exact ⟨_, rfl, by simp; omega⟩
theorem live18_eq : M_thrumlaw18_live = some true := by
  have k0 : M_conf_Keep 10 2 4 0 = some (10, 0) := by kernel_rfl
  have k1 : M_conf_Keep 10 2 4 1 = some (8, 0) := by kernel_rfl
  have k2 : M_conf_Keep 10 2 4 2 = some (6, 0) := by kernel_rfl
  have k3 : M_conf_Keep 10 2 4 3 = some (4, 0) := by kernel_rfl
  have k4 : M_conf_Keep 10 2 4 4 = some (2, 0) := by kernel_rfl
  have k5 : M_conf_Keep 10 2 4 5 = some (2, 0) := by kernel_rfl
  have w : ∀ a : Int, 0 ≤ a ∧ a ≤ 10 → IntKind.i64.wrap (a + 1) = a + 1 := fun a h => i64_in _ (by omega)
  have step : ∀ (a v : Int), 0 ≤ a ∧ a < 6 → M_conf_Keep 10 2 4 a = some (v, 0) → v = at' [10, 8, 6, 4, 2, 2] a → M_thrumlaw18_live_l0 a = M_thrumlaw18_live_l0 (a + 1) := by
    intro a v h1 h2 h3
    rw [M_thrumlaw18_live_l0, if_pos (by simp; omega), if_pos (by simp; omega), h2, bindS, orB]
    simp only
    rw [if_neg (by simp [h3]), w a (by omega)]
  have hl : M_thrumlaw18_live_l0 0 = some (.inr ()) := by
    rw [step 0 10 (by omega) k0 rfl, show (0 : Int) + 1 = 1 from rfl, step 1 8 (by omega) k1 rfl, show (1 : Int) + 1 = 2 from rfl, step 2 6 (by omega) k2 rfl, show (2 : Int) + 1 = 3 from rfl, step 3 4 (by omega) k3 rfl, show (3 : Int) + 1 = 4 from rfl, step 4 2 (by omega) k4 rfl, show (4 : Int) + 1 = 5 from rfl, step 5 2 (by omega) k5 rfl, show (5 : Int) + 1 = 6 from rfl, M_thrumlaw18_live_l0, if_neg (by simp)]
  rw [M_thrumlaw18_live, hl, bindS]
  simp only
  rw [confChk_eq _ (by simp), if_pos (by decide), bindS, if_pos rfl, confChk_eq _ (by simp), if_neg (by decide), bindS, bindS]; rfl
end Go.Proofs.YtnmlihfpenjeiaaGreat.Abs
