/- Plain facts: how many numbers are kept, and how vectors are pressed at a step. Conditions: none. -/
import Derived.Test.YtnmlihfpenjeiaaGreatPY2
namespace Go.Proofs.YtnmlihfpenjeiaaGreat.Abs
open Go Go.RowKit Go.IntWalk
set_option linter.unusedVariables false
set_option linter.unusedSimpArgs false
set_option linter.unnecessarySimpa false
set_option maxRecDepth 100000

/-- How many numbers are kept. -/
def keepN (dim k warm step : Int) : Int := if step ≥ warm then k else dim - (dim - k) * step / warm
def keepOk (dim k warm step : Int) : Prop := (1 ≤ dim ∧ dim ≤ 4096) ∧ (0 ≤ k ∧ k ≤ dim) ∧ (0 ≤ warm ∧ warm ≤ 1048576) ∧ (0 ≤ step ∧ step ≤ 1073741824)
instance (dim k warm step : Int) : Decidable (keepOk dim k warm step) := by unfold keepOk; infer_instance
theorem part_in {d s w : Int} (hd : 0 ≤ d) (hs : 0 ≤ s) (h : s < w) : 0 ≤ d * s / w ∧ d * s / w ≤ d := by
  refine ⟨Int.ediv_nonneg (Int.mul_nonneg hd hs) (by omega), Int.ediv_le_of_le_mul (by omega) (Int.mul_le_mul_of_nonneg_left (by omega) hd)⟩
theorem keepN_in {dim k warm step : Int} (h : 0 ≤ k ∧ k ≤ dim) (hs : 0 ≤ step) : k ≤ keepN dim k warm step ∧ keepN dim k warm step ≤ dim := by
  unfold keepN
  split
  · omega
  · have := part_in (d := dim - k) (s := step) (w := warm) (by omega) hs (by omega); omega
theorem keep_end {dim k warm step : Int} (h : keepOk dim k warm step) : (if step ≥ warm then some (k, (0 : Int)) else if warm ≠ 0 then some (IntKind.i64.wrap (dim - (IntKind.i64.wrap (Int.tdiv (IntKind.i64.wrap ((IntKind.i64.wrap (dim - k)) * step)) warm))), 0) else none) = some (keepN dim k warm step, 0) := by
  obtain ⟨h1, h2, h3, h4⟩ := h
  unfold keepN
  by_cases hs : step ≥ warm
  · rw [if_pos hs, if_pos hs]
  · have hp := part_in (d := dim - k) (s := step) (w := warm) (by omega) h4.1 (by omega)
    have hm := mul_in (a := dim - k) (b := step) (A := 4096) (B := 1073741824) (by omega) h4
    rw [if_neg hs, if_neg hs, if_pos (by omega), i64_in (dim - k) (by omega), i64_in ((dim - k) * step) (by omega), Int.tdiv_eq_ediv_of_nonneg hm.1, i64_in ((dim - k) * step / warm) (by omega), i64_in _ (by omega)]
theorem keep_eq (dim k warm step : Int) : M_conf_Keep dim k warm step = some (if keepOk dim k warm step then (keepN dim k warm step, 0) else (0, 1)) := by
  rw [M_conf_Keep]
  simp only [within_eq, bindS, orB]
  by_cases h : keepOk dim k warm step
  · have h' := h
    unfold keepOk at h'
    rw [if_pos h, if_neg (by simp only [Bool.or_eq_true, Bool.not_eq_true', decide_eq_false_iff_not, decide_eq_true_eq]; omega)]
    exact keep_end h
  · rw [if_neg h]
    unfold keepOk at h
    rw [if_pos (by simp only [Bool.or_eq_true, Bool.not_eq_true', decide_eq_false_iff_not, decide_eq_true_eq]; omega)]
theorem at_eq (c : T_api_Conf) (hl : c.F_L.length ≤ 4398046511000) (s : Int) : M_conf_at c s = some (decide ((0 ≤ s ∧ s ≤ 1073741824) ∧ confOk c)) := by
  rw [M_conf_at, within_eq, bindS]
  by_cases h : 0 ≤ s ∧ s ≤ 1073741824
  · rw [if_pos (by simpa using h), confChk_eq c hl, bindS, bindS]
    by_cases g : confOk c <;> simp [h, g]
  · rw [if_neg (by simpa using h), bindS]; simp [h]
/-- How vectors are pressed at a step. -/
def howP (c : T_api_Conf) (s : Int) : Int × Int × Int × Int :=
  if (0 ≤ s ∧ s ≤ 1073741824) ∧ confOk c then (c.F_H.F_Scheme, if c.F_H.F_Scheme = 1 then keepN (dimN c.F_M) c.F_H.F_K c.F_Warm s else c.F_H.F_K, c.F_H.F_Wide, 0) else (0, 0, 0, 1)
theorem top_k {c : T_api_Conf} (h : confOk c) (h1 : c.F_H.F_Scheme = 1) : 0 ≤ c.F_H.F_K ∧ c.F_H.F_K ≤ dimN c.F_M := by
  have := h.2.1.2; omega
theorem conf_keep {c : T_api_Conf} (h : confOk c) (h1 : c.F_H.F_Scheme = 1) {s : Int} (hs : 0 ≤ s ∧ s ≤ 1073741824) : keepOk (dimN c.F_M) c.F_H.F_K c.F_Warm s := by
  have hd := dimN_in h.1
  exact ⟨by omega, top_k h h1, h.2.2.1.2.1, hs⟩
theorem how_eq (c : T_api_Conf) (hl : c.F_L.length ≤ 4398046511000) (s : Int) : M_conf_How c s = some (howP c s) := by
  rw [M_conf_How, at_eq c hl, bindS, howP]
  by_cases h : (0 ≤ s ∧ s ≤ 1073741824) ∧ confOk c
  rotate_left
  · rw [if_neg h, if_pos (by simpa using h)]
  rw [if_pos h, if_neg (by rw [decide_eq_true h]; simp)]
  by_cases h1 : c.F_H.F_Scheme = 1
  · rw [if_pos h1, if_pos h1, mDim_eq, if_pos h.2.1, bindS, if_pos rfl, keep_eq, if_pos (conf_keep h.2 h1 h.1), bindS]
    simp only
    rw [if_neg (by simp)]
  · rw [if_neg h1, if_neg h1]
end Go.Proofs.YtnmlihfpenjeiaaGreat.Abs
