/- Plain facts: which models may be, and how many numbers they have. Conditions: none. -/
import Derived.Test.YtnmlihfpenjeiaaGreatPB
import Derived.Test.YtnmlihfpenjeiaaGreatCM
namespace Go.Proofs.YtnmlihfpenjeiaaGreat.Abs
open Go Go.RowKit Go.IntWalk
set_option linter.unusedVariables false
set_option linter.unusedSimpArgs false
set_option linter.unnecessarySimpa false
set_option maxRecDepth 100000

theorem linDim_eq (a : Int) : M_linear_Dim a = some (if 1 ≤ a ∧ a ≤ 16 then (a + 1, 0) else (0, 1)) := by
  rw [M_linear_Dim, orB]
  by_cases h : 1 ≤ a ∧ a ≤ 16
  · rw [if_pos h, if_neg (by simp; omega), i64_in _ (by omega)]
  · rw [if_neg h, if_pos (by simp; omega)]
theorem mul_in {a b A B : Int} (ha : 0 ≤ a ∧ a ≤ A) (hb : 0 ≤ b ∧ b ≤ B) : 0 ≤ a * b ∧ a * b ≤ A * B := ⟨Int.mul_nonneg ha.1 hb.1, Int.mul_le_mul ha.2 hb.2 hb.1 (by omega)⟩
theorem softDim_eq (a b : Int) : M_soft_Dim a b = some (if (1 ≤ a ∧ a ≤ 16) ∧ (2 ≤ b ∧ b ≤ 8) then ((a + 1) * b, 0) else (0, 1)) := by
  rw [M_soft_Dim, linDim_eq, bindS, M_soft_classes, andB]
  by_cases h : 1 ≤ a ∧ a ≤ 16
  · rw [if_pos h, if_neg (by simp), bindS, bindS]
    by_cases g : 2 ≤ b ∧ b ≤ 8
    · have := mul_in (a := a + 1) (b := b) (A := 17) (B := 8) (by omega) (by omega)
      rw [if_neg (by simp; omega), if_pos ⟨h, g⟩]; simp only; rw [i64_in _ (by omega)]
    · rw [if_pos (by simp; omega), if_neg (fun x => g x.2)]
  · rw [if_neg h, if_pos (by simp), bindS, if_pos rfl, if_neg (fun x => h x.1)]
theorem mlpDim_eq (a b : Int) : M_mlp_Dim a b = some (if (1 ≤ a ∧ a ≤ 16) ∧ (1 ≤ b ∧ b ≤ 8) then (b * (a + 1) + b + 1, 0) else (0, 1)) := by
  rw [M_mlp_Dim, linDim_eq, bindS, M_mlp_hides, andB]
  by_cases h : 1 ≤ a ∧ a ≤ 16
  · rw [if_pos h, if_neg (by simp), bindS, bindS]
    by_cases g : 1 ≤ b ∧ b ≤ 8
    · have := mul_in (a := b) (b := a + 1) (A := 8) (B := 17) (by omega) (by omega)
      rw [if_neg (by simp; omega), if_pos ⟨h, g⟩]; simp only; rw [i64_in (b * (a + 1)) (by omega), i64_in (b * (a + 1) + b) (by omega), i64_in _ (by omega)]
    · rw [if_pos (by simp; omega), if_neg (fun x => g x.2)]
  · rw [if_neg h, if_pos (by simp), bindS, if_pos rfl, if_neg (fun x => h x.1)]

/-- May a model be? -/
def modOk (m : T_api_Model) : Prop := (1 ≤ m.F_In ∧ m.F_In ≤ 16) ∧ (0 ≤ m.F_Frac ∧ m.F_Frac ≤ 30) ∧ ((m.F_Kind = 0 ∧ m.F_Out = 0 ∧ m.F_Hid = 0) ∨ (m.F_Kind = 1 ∧ (2 ≤ m.F_Out ∧ m.F_Out ≤ 8) ∧ m.F_Hid = 0) ∨ (m.F_Kind = 2 ∧ m.F_Out = 0 ∧ (1 ≤ m.F_Hid ∧ m.F_Hid ≤ 8)))
instance (m : T_api_Model) : Decidable (modOk m) := by unfold modOk; infer_instance
/-- How many numbers it has. -/
def dimN (m : T_api_Model) : Int := if m.F_Kind = 1 then (m.F_In + 1) * m.F_Out else if m.F_Kind = 2 then m.F_Hid * (m.F_In + 1) + m.F_Hid + 1 else m.F_In + 1
theorem dimN_in {m : T_api_Model} (h : modOk m) : 2 ≤ dimN m ∧ dimN m ≤ 145 := by
  obtain ⟨h1, h2, h3⟩ := h
  unfold dimN
  rcases h3 with h3 | h3 | h3
  · rw [if_neg (by omega), if_neg (by omega)]; omega
  · have := mul_in (a := m.F_In + 1) (b := m.F_Out) (A := 17) (B := 8) (by omega) (by omega)
    have g : 2 * 1 ≤ (m.F_In + 1) * m.F_Out := Int.mul_le_mul (by omega) (by omega) (by omega) (by omega)
    rw [if_pos h3.1]; omega
  · have := mul_in (a := m.F_Hid) (b := m.F_In + 1) (A := 8) (B := 17) (by omega) (by omega)
    rw [if_neg (by omega), if_pos h3.1]; omega
theorem of_ok {m : T_api_Model} (h : modOk m) : M_model_of m = some (if m.F_Kind = 0 then .inr (.inl (m.F_Kind, m.F_In, m.F_Out, m.F_Hid, m.F_Frac, dimN m, 0)) else if m.F_Kind = 1 then .inr (.inr (.inl (m.F_Kind, m.F_In, m.F_Out, m.F_Hid, m.F_Frac, dimN m, 0))) else .inr (.inr (.inr (m.F_Kind, m.F_In, m.F_Out, m.F_Hid, m.F_Frac, dimN m, 0)))) := by
  obtain ⟨h1, h2, h3⟩ := h
  rw [M_model_of]
  rcases h3 with h3 | h3 | h3
  · rw [if_pos h3.1, orB, if_neg (by simp; omega), if_pos (by omega), if_neg (by omega), if_pos (by omega), if_neg (by omega), M_thrum_model_straight_dim, linDim_eq, bindS, bindS, if_pos h1, if_pos h3.1, dimN, if_neg (by omega), if_neg (by omega)]
  · rw [if_neg (by omega), if_pos h3.1, orB, if_neg (by simp; omega), if_neg (by omega), if_pos (by omega), if_neg (by omega), M_thrum_model_classes_dim, softDim_eq, bindS, bindS, if_pos ⟨h1, h3.2.1⟩, if_neg (by omega), if_pos h3.1, dimN, if_pos h3.1]
  · rw [if_neg (by omega), if_neg (by omega), if_pos h3.1, orB, if_neg (by simp; omega), if_pos (by omega), if_neg (by omega), if_neg (by omega), M_thrum_model_layers_dim, mlpDim_eq, bindS, bindS, if_pos ⟨h1, h3.2.2⟩, if_neg (by omega), if_neg (by omega), dimN, if_neg (by omega), if_pos h3.1]
theorem mDim_eq (m : T_api_Model) : M_model_Dim m = some (if modOk m then (dimN m, 0) else (0, 1)) := by
  by_cases h : modOk m
  · rw [M_model_Dim, of_ok h, if_pos h, bindS]
    obtain ⟨h1, h2, h3⟩ := h
    rcases h3 with h3 | h3 | h3
    · rw [if_pos h3.1]
    · rw [if_neg (by omega), if_pos h3.1]
    · rw [if_neg (by omega), if_neg (by omega)]
  · rw [M_model_Dim, if_neg h, M_model_of]
    unfold modOk at h
    by_cases k0 : m.F_Kind = 0
    · rw [if_pos k0, orB]
      by_cases f : m.F_Frac < 0 ∨ 30 < m.F_Frac
      · rw [if_pos (by simp; omega)]; rfl
      rw [if_neg (by simp; omega), if_pos (by omega)]
      by_cases o : m.F_Out ≠ 0
      · rw [if_pos o]; rfl
      rw [if_neg o, if_pos (by omega)]
      by_cases i : m.F_Hid ≠ 0
      · rw [if_pos i]; rfl
      rw [if_neg i, M_thrum_model_straight_dim, linDim_eq, if_neg (by simp only; omega)]; rfl
    rw [if_neg k0]
    by_cases k1 : m.F_Kind = 1
    · rw [if_pos k1, orB]
      by_cases f : m.F_Frac < 0 ∨ 30 < m.F_Frac
      · rw [if_pos (by simp; omega)]; rfl
      rw [if_neg (by simp; omega), if_neg (by omega), if_pos (by omega)]
      by_cases i : m.F_Hid ≠ 0
      · rw [if_pos i]; rfl
      rw [if_neg i, M_thrum_model_classes_dim, softDim_eq, if_neg (by simp only; omega)]; rfl
    rw [if_neg k1]
    by_cases k2 : m.F_Kind = 2
    · rw [if_pos k2, orB]
      by_cases f : m.F_Frac < 0 ∨ 30 < m.F_Frac
      · rw [if_pos (by simp; omega)]; rfl
      rw [if_neg (by simp; omega), if_pos (by omega)]
      by_cases o : m.F_Out ≠ 0
      · rw [if_pos o]; rfl
      rw [if_neg o, if_neg (by omega), M_thrum_model_layers_dim, mlpDim_eq, if_neg (by simp only; omega)]; rfl
    rw [if_neg k2]; rfl

/-- Does a sample go with a model? -/
def goes (m : T_api_Model) (s : T_api_Sample) : Bool := decide ((s.F_X.length : Int) = m.F_In) && (decide (m.F_Kind ≠ 1) || decide (0 ≤ s.F_Y ∧ s.F_Y < m.F_Out))
theorem linChk_eq {m : T_api_Model} (h : 1 ≤ m.F_In ∧ m.F_In ≤ 16) {w : List Int} (hw : (w.length : Int) = m.F_In + 1) (s : T_api_Sample) : M_linear_Check m.F_In w [s] = some (if (s.F_X.length : Int) = m.F_In then 0 else 4) := by
  rw [M_linear_Check, linDim_eq, bindS, if_pos h, if_neg (by simp), M_linear_Check_l0, if_pos (by simp), if_pos (by simp), show ((w.length : Int) == m.F_In + 1) = true by simp [hw], if_pos rfl, bindS, M_linear_Check_l0, if_neg (by simp [IntKind.wrap_i64]), bindS]
  by_cases g : (s.F_X.length : Int) = m.F_In
  · rw [if_pos g, if_neg (by simpa [at'] using g), orB, if_neg (by simp)]
  · rw [if_neg g, if_pos (by simpa [at'] using g)]
theorem softC1 (s : T_api_Sample) (a : Int) : M_slices_ContainsFunc_thrum_api_Sample_thrum_api_Sample_soft_Check_1 [s] a = some (decide ((s.F_X.length : Int) ≠ a)) := by
  rw [M_slices_ContainsFunc_thrum_api_Sample_thrum_api_Sample_soft_Check_1, M_slices_IndexFunc_thrum_api_Sample_thrum_api_Sample_soft_Check_1, M_slices_IndexFunc_thrum_api_Sample_thrum_api_Sample_soft_Check_1_l0, if_pos (by simp), if_pos (by simp), M_soft_Check_1_c, bindS]
  by_cases g : (s.F_X.length : Int) = a
  · rw [if_neg (by simpa [at'] using g), M_slices_IndexFunc_thrum_api_Sample_thrum_api_Sample_soft_Check_1_l0, if_neg (by simp [IntKind.wrap_i64])]; simp [bindS, g]
  · rw [if_pos (by simpa [at'] using g)]; simp [bindS, g]
theorem softC2 (s : T_api_Sample) (a : Int) : M_slices_ContainsFunc_thrum_api_Sample_thrum_api_Sample_soft_Check_2 [s] a = some (!decide (0 ≤ s.F_Y ∧ s.F_Y < a)) := by
  rw [M_slices_ContainsFunc_thrum_api_Sample_thrum_api_Sample_soft_Check_2, M_slices_IndexFunc_thrum_api_Sample_thrum_api_Sample_soft_Check_2, M_slices_IndexFunc_thrum_api_Sample_thrum_api_Sample_soft_Check_2_l0, if_pos (by simp), if_pos (by simp), M_soft_Check_2_c, orB, bindS]
  by_cases g : 0 ≤ s.F_Y ∧ s.F_Y < a
  · rw [if_neg (by simp [at']; omega), M_slices_IndexFunc_thrum_api_Sample_thrum_api_Sample_soft_Check_2_l0, if_neg (by simp [IntKind.wrap_i64])]; simp [bindS, g]
  · rw [if_pos (by simp [at']; omega), bindS, bindS]; simp [g]
theorem mlpC1 (s : T_api_Sample) (a : Int) : M_slices_ContainsFunc_thrum_api_Sample_thrum_api_Sample_mlp_Check_1 [s] a = some (decide ((s.F_X.length : Int) ≠ a)) := by
  rw [M_slices_ContainsFunc_thrum_api_Sample_thrum_api_Sample_mlp_Check_1, M_slices_IndexFunc_thrum_api_Sample_thrum_api_Sample_mlp_Check_1, M_slices_IndexFunc_thrum_api_Sample_thrum_api_Sample_mlp_Check_1_l0, if_pos (by simp), if_pos (by simp), M_mlp_Check_1_c, bindS]
  by_cases g : (s.F_X.length : Int) = a
  · rw [if_neg (by simpa [at'] using g), M_slices_IndexFunc_thrum_api_Sample_thrum_api_Sample_mlp_Check_1_l0, if_neg (by simp [IntKind.wrap_i64])]; simp [bindS, g]
  · rw [if_pos (by simpa [at'] using g)]; simp [bindS, g]
/-- model.Fits, of one sample. -/
theorem fits_eq {m : T_api_Model} (h : modOk m) {w : List Int} (hw : (w.length : Int) = dimN m) (s : T_api_Sample) : ∃ e, M_model_Fits m w [s] = some e ∧ (e = 0 ↔ goes m s = true) := by
  have h' := h
  obtain ⟨h1, h2, h3⟩ := h
  rw [M_model_Fits, of_ok h', bindS]
  rcases h3 with h3 | h3 | h3
  · rw [if_pos h3.1]
    simp only
    rw [if_neg (by simp), M_thrum_model_straight_fits]
    simp only
    have hl := linChk_eq (m := m) h1 (w := w) (by rw [hw, dimN, if_neg (by omega), if_neg (by omega)]) s
    rw [hl, bindS, bindS]
    refine ⟨_, rfl, ?_⟩
    unfold goes
    by_cases g : (s.F_X.length : Int) = m.F_In <;> simp [g, h3.1]
  · rw [if_neg (by omega), if_pos h3.1]
    simp only
    rw [if_neg (by simp), M_thrum_model_classes_fits, M_soft_Check, softDim_eq]
    simp only
    rw [bindS, if_pos (show (1 ≤ m.F_In ∧ m.F_In ≤ 16) ∧ (2 ≤ m.F_Out ∧ m.F_Out ≤ 8) from ⟨h1, h3.2.1⟩), if_neg (by simp), if_neg (by simp only; rw [hw, dimN, if_pos h3.1]; simp), softC1, bindS, bindS, softC2]
    unfold goes
    by_cases g : (s.F_X.length : Int) = m.F_In
    · rw [if_neg (by simpa using g), orB, if_neg (by simp), bindS, bindS]
      by_cases y : 0 ≤ s.F_Y ∧ s.F_Y < m.F_Out
      · rw [if_neg (by simp [y])]; exact ⟨_, rfl, by simp [g, y]⟩
      · rw [if_pos (by simp [y])]; exact ⟨_, rfl, by simp [g, y, h3.1]⟩
    · rw [if_pos (by simpa using g)]; exact ⟨_, rfl, by simp [g]⟩
  · rw [if_neg (by omega), if_neg (by omega)]
    simp only
    rw [if_neg (by simp), M_thrum_model_layers_fits, M_mlp_Check, mlpDim_eq]
    simp only
    rw [bindS, if_pos (show (1 ≤ m.F_In ∧ m.F_In ≤ 16) ∧ (1 ≤ m.F_Hid ∧ m.F_Hid ≤ 8) from ⟨h1, h3.2.2⟩), if_neg (by simp), if_neg (by simp only; rw [hw, dimN, if_neg (by omega), if_pos h3.1]; simp), mlpC1, bindS, bindS]
    unfold goes
    by_cases g : (s.F_X.length : Int) = m.F_In
    · rw [if_neg (by simpa using g), orB, if_neg (by simp)]; exact ⟨_, rfl, by simp [g]; omega⟩
    · rw [if_pos (by simpa using g)]; exact ⟨_, rfl, by simp [g]⟩
end Go.Proofs.YtnmlihfpenjeiaaGreat.Abs
