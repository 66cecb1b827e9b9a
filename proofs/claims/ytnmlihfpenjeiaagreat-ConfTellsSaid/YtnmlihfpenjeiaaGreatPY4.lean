/- Plain facts: what the document says of models, runs, and draws. Conditions: none. -/
import Derived.Test.YtnmlihfpenjeiaaGreatPY3
import Derived.Test.YtnmlihfpenjeiaaGreatPYd
namespace Go.Proofs.YtnmlihfpenjeiaaGreat.Abs
open Go Go.RowKit Go.IntWalk
set_option linter.unusedVariables false
set_option linter.unusedSimpArgs false
set_option linter.unnecessarySimpa false
set_option maxRecDepth 100000

theorem r17Check_eq (m : T_api_Model) : M_thrumref17_Check m = some (if modOk m then 0 else 1) := by
  obtain ⟨K, I, O, H, F⟩ := m
  have hb : ∀ b : Bool, (if b = false then some 1 else some 0 : Option Int) = some (if b then 0 else 1) := fun b => by cases b <;> rfl
  rw [M_thrumref17_Check]
  simp only [andB, bindS, hb]
  unfold modOk
  by_cases h1 : 1 ≤ I ∧ I ≤ 16
  rotate_left
  · by_cases k0 : K = 0 <;> by_cases k1 : K = 1 <;> by_cases k2 : K = 2 <;> simp [k0, k1, k2] <;> omega
  by_cases h2 : 0 ≤ F ∧ F ≤ 30
  rotate_left
  · by_cases k0 : K = 0 <;> by_cases k1 : K = 1 <;> by_cases k2 : K = 2 <;> simp [k0, k1, k2] <;> omega
  by_cases k0 : K = 0
  · subst k0
    by_cases o : O = 0 <;> by_cases i : H = 0 <;> simp [h1, h2, o, i]
  by_cases k1 : K = 1
  · subst k1
    by_cases o : 2 ≤ O ∧ O ≤ 8 <;> by_cases i : H = 0 <;> simp [h1, h2, o, i] <;> omega
  by_cases k2 : K = 2
  · subst k2
    by_cases o : O = 0 <;> by_cases i : 1 ≤ H ∧ H ≤ 8 <;> simp [h1, h2, o, i] <;> omega
  · simp [k0, k1, k2]
theorem r14Dim_eq (a : Int) : M_thrumref14_Dim a = some (if 1 ≤ a ∧ a ≤ 16 then (a + 1, 0) else (0, 1)) := by
  rw [M_thrumref14_Dim, orB]
  by_cases h : 1 ≤ a ∧ a ≤ 16
  · rw [if_pos h, if_neg (by simp; omega), i64_in _ (by omega)]
  · rw [if_neg h, if_pos (by simp; omega)]
theorem r15Dim_eq (a b : Int) : M_thrumref15_Dim a b = some (if (1 ≤ a ∧ a ≤ 16) ∧ (2 ≤ b ∧ b ≤ 8) then ((a + 1) * b, 0) else (0, 1)) := by
  rw [M_thrumref15_Dim]
  simp only [orB]
  by_cases h : (1 ≤ a ∧ a ≤ 16) ∧ (2 ≤ b ∧ b ≤ 8)
  · have := mul_in (a := b) (b := a + 1) (A := 8) (B := 17) (by omega) (by omega)
    rw [if_pos h, if_neg (by simp; omega), i64_in (a + 1) (by omega), i64_in _ (by omega), Int.mul_comm]
  · rw [if_neg h, if_pos (by simp; omega)]
theorem r16Dim_eq (a b : Int) : M_thrumref16_Dim a b = some (if (1 ≤ a ∧ a ≤ 16) ∧ (1 ≤ b ∧ b ≤ 8) then (b * (a + 1) + b + 1, 0) else (0, 1)) := by
  rw [M_thrumref16_Dim]
  simp only [orB]
  by_cases h : (1 ≤ a ∧ a ≤ 16) ∧ (1 ≤ b ∧ b ≤ 8)
  · have := mul_in (a := b) (b := a + 1) (A := 8) (B := 17) (by omega) (by omega)
    rw [if_pos h, if_neg (by simp; omega), i64_in (a + 1) (by omega), i64_in (b * (a + 1)) (by omega), i64_in (b * (a + 1) + b) (by omega), i64_in _ (by omega)]
  · rw [if_neg h, if_pos (by simp; omega)]
theorem r17Dim_eq (m : T_api_Model) : M_thrumref17_Dim m = some (if modOk m then (dimN m, 0) else (0, 1)) := by
  rw [M_thrumref17_Dim, r17Check_eq, bindS]
  by_cases h : modOk m
  rotate_left
  · rw [if_neg h, if_neg h, if_pos (by simp)]
  rw [if_pos h, if_pos h, if_neg (by simp)]
  obtain ⟨h1, h2, h3⟩ := h
  rw [dimN]
  rcases h3 with h3 | h3 | h3
  · rw [if_neg (by omega), if_neg (by omega), if_neg (by omega), if_neg (by omega), r14Dim_eq, if_pos h1, bindS]
  · rw [if_pos h3.1, if_pos h3.1, r15Dim_eq, if_pos ⟨h1, h3.2.1⟩, bindS]
  · rw [if_neg (by omega), if_pos h3.1, if_neg (by omega), if_pos h3.1, r16Dim_eq, if_pos ⟨h1, h3.2.2⟩, bindS]
theorem r17Fits_eq {m : T_api_Model} (h : modOk m) {w : List Int} (hw : (w.length : Int) = dimN m) (s : T_api_Sample) : ∃ e, M_thrumref17_Fits m w [s] = some e ∧ (e = 0 ↔ goes m s = true) := by
  have h' := h
  obtain ⟨h1, h2, h3⟩ := h
  have hat : at' [s] 0 = s := rfl
  have hwr : ¬ (IntKind.i64.wrap ((0 : Int) + 1) < (([s] : List T_api_Sample).length : Int)) := by rw [IntKind.wrap_i64]; simp
  rw [M_thrumref17_Fits, r17Check_eq, bindS, if_pos h', if_neg (by simp)]
  unfold goes
  rcases h3 with h3 | h3 | h3
  · rw [if_neg (by omega), if_neg (by omega), M_thrumref14_Check, r14Dim_eq, bindS, if_pos h1]
    simp only
    rw [if_neg (by simp), if_neg (by rw [hw, dimN, if_neg (by omega), if_neg (by omega)]; simp), M_thrumref14_Check_l0, if_pos (by simp), if_pos (by simp), hat]
    by_cases g : (s.F_X.length : Int) = m.F_In
    · rw [if_neg (by simpa using g), M_thrumref14_Check_l0, if_neg hwr, bindS]
      simp only
      rw [orB, if_neg (by simp)]
      exact ⟨_, rfl, by simp [g, h3.1]⟩
    · rw [if_pos g, bindS]; exact ⟨_, rfl, by simp [g]⟩
  · rw [if_pos h3.1, M_thrumref15_Check, r15Dim_eq, bindS, if_pos (show (1 ≤ m.F_In ∧ m.F_In ≤ 16) ∧ (2 ≤ m.F_Out ∧ m.F_Out ≤ 8) from ⟨h1, h3.2.1⟩)]
    simp only
    rw [if_neg (by simp), if_neg (by rw [hw, dimN, if_pos h3.1]; simp), M_thrumref15_Check_l0, if_pos (by simp), if_pos (by simp), hat]
    by_cases g : (s.F_X.length : Int) = m.F_In
    · rw [if_neg (by simpa using g), M_thrumref15_Check_l0, if_neg hwr, bindS]
      simp only
      rw [orB, if_neg (by simp), M_thrumref15_Check_l1, if_pos (by simp), if_pos (by simp), hat, orB]
      by_cases y : 0 ≤ s.F_Y ∧ s.F_Y < m.F_Out
      · rw [if_neg (by simp; omega), M_thrumref15_Check_l1, if_neg hwr, bindS]; exact ⟨_, rfl, by simp [g, y]⟩
      · rw [if_pos (by simp; omega), bindS]; exact ⟨_, rfl, by simp [g, y, h3.1]⟩
    · rw [if_pos g, bindS]; exact ⟨_, rfl, by simp [g]⟩
  · rw [if_neg (by omega), if_pos h3.1, M_thrumref16_Check, r16Dim_eq, bindS, if_pos (show (1 ≤ m.F_In ∧ m.F_In ≤ 16) ∧ (1 ≤ m.F_Hid ∧ m.F_Hid ≤ 8) from ⟨h1, h3.2.2⟩)]
    simp only
    rw [if_neg (by simp), if_neg (by rw [hw, dimN, if_neg (by omega), if_pos h3.1]; simp), M_thrumref16_Check_l0, if_pos (by simp), if_pos (by simp), hat]
    by_cases g : (s.F_X.length : Int) = m.F_In
    · rw [if_neg (by simpa using g), M_thrumref16_Check_l0, if_neg hwr, bindS]
      simp only
      rw [orB, if_neg (by simp)]
      exact ⟨_, rfl, by simp [g]; omega⟩
    · rw [if_pos g, bindS]; exact ⟨_, rfl, by simp [g]⟩
theorem r18Check_l0 (c : T_api_Conf) (hm : modOk c.F_M) (hl : c.F_L.length ≤ 4398046511000) : ∀ (t : List T_api_Sample) (k : Nat), c.F_L.drop k = t → M_thrumref18_Check_l0 c (dimN c.F_M, 0) (k : Int) = some (if t.all (goes c.F_M) = true then .inr () else .inl 1)
  | [], k, h => by rw [M_thrumref18_Check_l0, if_neg (drop_end h)]; rfl
  | x :: t, k, h => by
    obtain ⟨g1, g2, g3⟩ := drop_at h
    have hd := dimN_in hm
    obtain ⟨e, f1, f2⟩ := r17Fits_eq hm (w := List.replicate (dimN c.F_M).toNat 0) (by simp; omega) x
    rw [M_thrumref18_Check_l0, if_pos g1, if_pos ⟨by omega, g1⟩, g2]
    simp only
    rw [if_pos ⟨by omega, by omega, by omega, by omega⟩, f1, bindS, bindS]
    by_cases he : e = 0
    · rw [if_neg (by simp [he]), i64_s (by omega), r18Check_l0 c hm hl t (k + 1) g3, List.all_cons, f2.1 he, Bool.true_and]
    · have : goes c.F_M x = false := by cases hg : goes c.F_M x with
        | true => exact absurd (f2.2 hg) he
        | false => rfl
      rw [if_pos (by simpa using he), List.all_cons, this, Bool.false_and, if_neg (by simp)]
theorem r18Check_eq (c : T_api_Conf) (hl : c.F_L.length ≤ 4398046511000) : M_thrumref18_Check c = some (if confOk c then 0 else 1) := by
  rw [M_thrumref18_Check, r17Dim_eq, bindS]
  by_cases hm : modOk c.F_M
  rotate_left
  · rw [if_neg hm]
    simp only [orB]
    rw [if_pos (by simp), bindS, if_pos (by simp), if_neg (fun h => hm h.1)]
  rw [if_pos hm]
  simp only [orB, r12Check_eq, bindS]
  by_cases hA : (1 ≤ c.F_N ∧ c.F_N ≤ 64) ∧ wayOk c.F_H (dimN c.F_M) ∧ (0 ≤ c.F_Warm ∧ c.F_Warm ≤ 1048576)
  rotate_left
  · rw [if_pos (by
      by_cases hh : wayOk c.F_H (dimN c.F_M)
      · rw [if_pos hh]; simp [hh] at hA; simp; omega
      · rw [if_neg hh]; simp), if_neg (fun h => hA ⟨h.2.2.1.1, h.2.1, h.2.2.1.2.1⟩)]
  rw [if_neg (by rw [if_pos hA.2.1]; simp; omega), if_pos hm.2.1.1]
  by_cases hB : (0 ≤ c.F_Rate ∧ c.F_Rate ≤ oneF c.F_M) ∧ (0 ≤ c.F_Mom ∧ c.F_Mom ≤ oneF c.F_M) ∧ 0 ≤ c.F_Clip
  rotate_left
  · rw [if_pos (by simp only [Bool.or_eq_true, decide_eq_true_eq]; unfold oneF at hB; omega), if_neg (fun h => hB h.2.2.1.2.2)]
  rw [if_neg (by simp only [Bool.or_eq_true, decide_eq_true_eq]; unfold oneF at hB; omega)]
  by_cases hC : c.F_L.length ≤ 256 ∧ 1 ≤ c.F_Batch ∧ c.F_Batch ≤ 64 ∧ c.F_Batch ≤ (c.F_L.length : Int)
  rotate_left
  · rw [if_pos (by simp only [Bool.or_eq_true, decide_eq_true_eq]; omega), if_neg (fun h => hC h.2.2.2.1)]
  have hl0 := r18Check_l0 c hm hl c.F_L 0 rfl
  rw [show ((0 : Nat) : Int) = 0 from rfl] at hl0
  rw [if_neg (by simp only [Bool.or_eq_true, decide_eq_true_eq]; omega), hl0, bindS]
  by_cases hg : ∀ s ∈ c.F_L, goes c.F_M s = true
  · rw [if_pos (List.all_eq_true.2 hg), if_pos ⟨hm, hA.2.1, ⟨hA.1, hA.2.2, hB⟩, hC, hg⟩]
  · rw [if_neg (fun h => hg (List.all_eq_true.1 h)), if_neg (fun h => hg h.2.2.2.2)]
theorem r18Keep_eq (dim k warm step : Int) : M_thrumref18_Keep dim k warm step = some (if keepOk dim k warm step then (keepN dim k warm step, 0) else (0, 1)) := by
  rw [M_thrumref18_Keep]
  simp only [orB]
  by_cases h : keepOk dim k warm step
  · have h' := h
    unfold keepOk at h'
    rw [if_pos h, if_neg (by simp only [Bool.or_eq_true, decide_eq_true_eq]; omega)]
    exact keep_end h
  · rw [if_neg h]
    unfold keepOk at h
    rw [if_pos (by simp only [Bool.or_eq_true, decide_eq_true_eq]; omega)]
theorem r18How_eq (c : T_api_Conf) (hl : c.F_L.length ≤ 4398046511000) (s : Int) : M_thrumref18_How c s = some (howP c s) := by
  rw [M_thrumref18_How, r18Check_eq c hl, bindS, howP]
  simp only [orB]
  by_cases h : (0 ≤ s ∧ s ≤ 1073741824) ∧ confOk c
  rotate_left
  · rw [if_neg h, if_pos (by
      by_cases g : confOk c
      · rw [if_pos g]; simp [g] at h; simp; omega
      · rw [if_neg g]; simp)]
  rw [if_pos h, if_pos h.2, if_neg (by simp; omega)]
  by_cases h1 : c.F_H.F_Scheme = 1
  · rw [if_pos h1, if_pos h1, r17Dim_eq, if_pos h.2.1, bindS, r18Keep_eq, if_pos (conf_keep h.2 h1 h.1), bindS]
  · rw [if_neg h1, if_neg h1]
end Go.Proofs.YtnmlihfpenjeiaaGreat.Abs
