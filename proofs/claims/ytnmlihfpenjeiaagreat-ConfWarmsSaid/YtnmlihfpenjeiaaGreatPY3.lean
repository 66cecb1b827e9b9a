/- Plain facts: how many numbers are kept, and how vectors are pressed at a step. Conditions: none. -/
import Derived.Test.YtnmlihfpenjeiaaGreatPY2
namespace Go.Proofs.YtnmlihfpenjeiaaGreat.Abs
open Go Go.RowKit Go.IntWalk
set_option linter.unusedVariables false
set_option linter.unusedSimpArgs false
set_option linter.unnecessarySimpa false
set_option maxRecDepth 100000

/-- How many numbers are kept. -/
def keepN (dim k warm step : Int) : Int := if step ≥ warm then k else dim - (dim - k) * step / warm
def keepOk (dim k warm step : Int) : Prop := (1 ≤ dim ∧ dim ≤ 4096) ∧ (0 ≤ k ∧ k ≤ dim) ∧ (0 ≤ warm ∧ warm ≤ 1048576) ∧ (0 ≤ step ∧ step ≤ 1073741824)
instance (dim k warm step : Int) : Decidable (keepOk dim k warm step) := by unfold keepOk; infer_instance
theorem part_in {d s w : Int} (hd : 0 ≤ d) (hs : 0 ≤ s) (h : s < w) : 0 ≤ d * s / w ∧ d * s / w ≤ d := by
  refine ⟨Int.ediv_nonneg (Int.mul_nonneg hd hs) (by omega), Int.ediv_le_of_le_mul (by omega) (Int.mul_le_mul_of_nonneg_left (by omega) hd)⟩
theorem keepN_in {dim k warm step : Int} (h : 0 ≤ k ∧ k ≤ dim) (hs : 0 ≤ step) : k ≤ keepN dim k warm step ∧ keepN dim k warm step ≤ dim := by
  unfold keepN
  split
  · omega
  · have := part_in (d := dim - k) (s := step) (w := warm) (by omega) hs (by omega); omega
theorem keepN_mono {dim k warm a b : Int} (h : 0 ≤ k ∧ k ≤ dim) (ha : 0 ≤ a) (hab : a ≤ b) : keepN dim k warm b ≤ keepN dim k warm a := by
  by_cases hb : b ≥ warm
  · rw [show keepN dim k warm b = k by unfold keepN; rw [if_pos hb]]
    exact (keepN_in h ha).1
  · unfold keepN
    rw [if_neg hb, if_neg (by omega)]
    have : (dim - k) * a / warm ≤ (dim - k) * b / warm := Int.ediv_le_ediv (by omega) (Int.mul_le_mul_of_nonneg_left hab (by omega))
    omega
theorem keepN_0 {dim k warm : Int} (h : 0 < warm) : keepN dim k warm 0 = dim := by
  unfold keepN
  rw [if_neg (by omega)]; simp
theorem keep_end {dim k warm step : Int} (h : keepOk dim k warm step) : (if step ≥ warm then some (k, (0 : Int)) else if warm ≠ 0 then some (IntKind.i64.wrap (dim - (IntKind.i64.wrap (Int.tdiv (IntKind.i64.wrap ((IntKind.i64.wrap (dim - k)) * step)) warm))), 0) else none) = some (keepN dim k warm step, 0) := by
  obtain ⟨h1, h2, h3, h4⟩ := h
  unfold keepN
  by_cases hs : step ≥ warm
  · rw [if_pos hs, if_pos hs]
  · have hp := part_in (d := dim - k) (s := step) (w := warm) (by omega) h4.1 (by omega)
    have hm := mul_in (a := dim - k) (b := step) (A := 4096) (B := 1073741824) (by omega) h4
    rw [if_neg hs, if_neg hs, if_pos (by omega), i64_in (dim - k) (by omega), i64_in ((dim - k) * step) (by omega), Int.tdiv_eq_ediv_of_nonneg hm.1, i64_in ((dim - k) * step / warm) (by omega), i64_in _ (by omega)]
theorem keep_eq (dim k warm step : Int) : M_conf_Keep dim k warm step = some (if keepOk dim k warm step then (keepN dim k warm step, 0) else (0, 1)) := by
  rw [M_conf_Keep]
  simp only [within_eq, bindS, orB]
  by_cases h : keepOk dim k warm step
  · have h' := h
    unfold keepOk at h'
    rw [if_pos h, if_neg (by simp only [Bool.or_eq_true, Bool.not_eq_true', decide_eq_false_iff_not, decide_eq_true_eq]; omega)]
    exact keep_end h
  · rw [if_neg h]
    unfold keepOk at h
    rw [if_pos (by simp only [Bool.or_eq_true, Bool.not_eq_true', decide_eq_false_iff_not, decide_eq_true_eq]; omega)]
theorem at_eq (c : T_api_Conf) (hl : c.F_L.length ≤ 4398046511000) (s : Int) : M_conf_at c s = some (decide ((0 ≤ s ∧ s ≤ 1073741824) ∧ confOk c)) := by
  rw [M_conf_at, within_eq, bindS]
  by_cases h : 0 ≤ s ∧ s ≤ 1073741824
  · rw [if_pos (by simpa using h), confChk_eq c hl, bindS, bindS]
    by_cases g : confOk c <;> simp [h, g]
  · rw [if_neg (by simpa using h), bindS]; simp [h]
/-- How vectors are pressed at a step. -/
def howP (c : T_api_Conf) (s : Int) : Int × Int × Int × Int :=
  if (0 ≤ s ∧ s ≤ 1073741824) ∧ confOk c then (c.F_H.F_Scheme, if c.F_H.F_Scheme = 1 then keepN (dimN c.F_M) c.F_H.F_K c.F_Warm s else c.F_H.F_K, c.F_H.F_Wide, 0) else (0, 0, 0, 1)
theorem top_k {c : T_api_Conf} (h : confOk c) (h1 : c.F_H.F_Scheme = 1) : 0 ≤ c.F_H.F_K ∧ c.F_H.F_K ≤ dimN c.F_M := by
  have := h.2.1.2; omega
theorem conf_keep {c : T_api_Conf} (h : confOk c) (h1 : c.F_H.F_Scheme = 1) {s : Int} (hs : 0 ≤ s ∧ s ≤ 1073741824) : keepOk (dimN c.F_M) c.F_H.F_K c.F_Warm s := by
  have hd := dimN_in h.1
  exact ⟨by omega, top_k h h1, h.2.2.1.2.1, hs⟩
theorem how_eq (c : T_api_Conf) (hl : c.F_L.length ≤ 4398046511000) (s : Int) : M_conf_How c s = some (howP c s) := by
  rw [M_conf_How, at_eq c hl, bindS, howP]
  by_cases h : (0 ≤ s ∧ s ≤ 1073741824) ∧ confOk c
  rotate_left
  · rw [if_neg h, if_pos (by simpa using h)]
  rw [if_pos h, if_neg (by rw [decide_eq_true h]; simp)]
  by_cases h1 : c.F_H.F_Scheme = 1
  · rw [if_pos h1, if_pos h1, mDim_eq, if_pos h.2.1, bindS, if_pos rfl, keep_eq, if_pos (conf_keep h.2 h1 h.1), bindS]
    simp only
    rw [if_neg (by simp)]
  · rw [if_neg h1, if_neg h1]
theorem how_way {c : T_api_Conf} {s : Int} (h : (0 ≤ s ∧ s ≤ 1073741824) ∧ confOk c) : wayOk (⟨(howP c s).1, (howP c s).2.1, (howP c s).2.2.1⟩ : T_api_How) (dimN c.F_M) := by
  rw [howP, if_pos h]
  have hw := h.2.2.1
  by_cases h1 : c.F_H.F_Scheme = 1
  · have hk := keepN_in (warm := c.F_Warm) (top_k h.2 h1) h.1.1
    have hk0 := top_k h.2 h1
    obtain ⟨hd, hw⟩ := hw
    refine ⟨hd, .inr (.inl ?_)⟩
    simp only [h1, if_true]
    exact ⟨trivial, by omega, by omega, by omega⟩
  · simp only [h1, if_false]; exact hw

theorem ConfWarms_true (c : T_api_Conf) (a b : Int) (hl : c.F_L.length ≤ 4398046510976) : M_thrumlaw18_ConfWarms c a b = some true := by
  obtain ⟨q, f1, f2⟩ := few18_eq c (by omega)
  rw [M_thrumlaw18_ConfWarms, live18_eq, bindS, if_neg (by simp), f1, bindS]
  cases q with
  | false => rw [if_pos rfl, bindS, if_pos rfl]
  | true =>
  rw [if_neg (by simp)]
  by_cases hc : confOk c
  rotate_left
  · rw [of_nchk (by omega) hc, bindS, bindS, if_pos (by simp)]
  rw [of_chk (by omega) hc, bindS, bindS, if_neg (by simp)]
  obtain ⟨hi, lo, hj, hle⟩ : ∃ hi lo : Int, (if b < a then some (a, b) else some (b, a) : Option (Int × Int)) = some (hi, lo) ∧ lo ≤ hi := by
    by_cases h : b < a
    · exact ⟨a, b, by rw [if_pos h], by omega⟩
    · exact ⟨b, a, by rw [if_neg h], by omega⟩
  have hd := dimN_in hc.1
  rw [hj, bindS, mDim_eq, if_pos hc.1, bindS]
  simp only
  rw [how_eq c (by omega), bindS, how_eq c (by omega), bindS, if_neg (by simp)]
  by_cases h : (0 ≤ lo ∧ lo ≤ 1073741824) ∧ (0 ≤ hi ∧ hi ≤ 1073741824)
  rotate_left
  · have : (howP c lo).2.2.2 ≠ 0 ∨ (howP c hi).2.2.2 ≠ 0 := by
      by_cases g : 0 ≤ lo ∧ lo ≤ 1073741824
      · exact .inr (by rw [howP, if_neg (fun x => h ⟨g, x.1⟩)]; simp)
      · exact .inl (by rw [howP, if_neg (fun x => g x.1)]; simp)
    rw [orB, if_pos (by simp only [Bool.or_eq_true, decide_eq_true_eq, bne_iff_ne]; exact this), if_pos trivial]
    by_cases g : lo < 0
    · rw [if_pos g]
    · rw [if_neg g]; simp; omega
  have e1 : (0 ≤ lo ∧ lo ≤ 1073741824) ∧ confOk c := ⟨h.1, hc⟩
  have e2 : (0 ≤ hi ∧ hi ≤ 1073741824) ∧ confOk c := ⟨h.2, hc⟩
  have z1 : (howP c lo).2.2.2 = 0 := by rw [howP, if_pos e1]
  have z2 : (howP c hi).2.2.2 = 0 := by rw [howP, if_pos e2]
  have s1 : (howP c lo).1 = c.F_H.F_Scheme := by rw [howP, if_pos e1]
  have s2 : (howP c hi).1 = c.F_H.F_Scheme := by rw [howP, if_pos e2]
  have w1 : (howP c lo).2.2.1 = c.F_H.F_Wide := by rw [howP, if_pos e1]
  have w2 : (howP c hi).2.2.1 = c.F_H.F_Wide := by rw [howP, if_pos e2]
  have g1 := how_way e1
  have g2 := how_way e2
  rw [z1, z2, orB, if_neg (by simp), pCheck_eq, bindS, if_pos g1, pCheck_eq, if_pos g2, bindS, s1, w1]
  simp only [orB, bindS]
  rw [if_neg (by simp)]
  by_cases h1 : c.F_H.F_Scheme = 1
  · have k1 : (howP c lo).2.1 = keepN (dimN c.F_M) c.F_H.F_K c.F_Warm lo := by rw [howP, if_pos e1, if_pos h1]
    have k2 : (howP c hi).2.1 = keepN (dimN c.F_M) c.F_H.F_K c.F_Warm hi := by rw [howP, if_pos e2, if_pos h1]
    have m1 := keepN_in (warm := c.F_Warm) (top_k hc h1) h.1.1
    have m2 := keepN_in (warm := c.F_Warm) (top_k hc h1) h.2.1
    have m3 := keepN_mono (warm := c.F_Warm) (top_k hc h1) h.1.1 hle
    rw [if_neg (by omega), k1, k2, if_neg (by simp; omega), if_pos trivial]
    have fin : (if lo > 0 then some true else if c.F_Warm = 0 then some true else some (keepN (dimN c.F_M) c.F_H.F_K c.F_Warm lo == dimN c.F_M)) = some true := by
      by_cases p : lo > 0
      · rw [if_pos p]
      · rw [if_neg p]
        by_cases q : c.F_Warm = 0
        · rw [if_pos q]
        · have : lo = 0 := by omega
          have hw := hc.2.2.1.2.1
          rw [if_neg q, this, keepN_0 (by omega)]; simp
    by_cases p : lo < c.F_Warm
    · rw [if_pos p]; exact fin
    · rw [if_neg p, if_pos (by unfold keepN; rw [if_pos (by omega)])]; exact fin
  · have k1 : (howP c lo).2.1 = c.F_H.F_K := by rw [howP, if_pos e1, if_neg h1]
    have k2 : (howP c hi).2.1 = c.F_H.F_K := by rw [howP, if_pos e2, if_neg h1]
    rw [if_pos h1, if_pos trivial, bindS, k1, k2, s2, w2]
    simp [bindS]
end Go.Proofs.YtnmlihfpenjeiaaGreat.Abs
