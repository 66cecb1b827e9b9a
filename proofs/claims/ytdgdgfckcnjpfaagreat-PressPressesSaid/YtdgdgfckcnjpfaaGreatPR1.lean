/- Plain facts: what the document says may be sent. Conditions: none. -/
import Derived.Test.YtdgdgfckcnjpfaaGreatPG5
namespace Go.Proofs.YtdgdgfckcnjpfaaGreat.Abs
open Go Go.RowKit Go.IntWalk
set_option linter.unusedVariables false
set_option linter.unusedSimpArgs false
set_option linter.unusedSectionVars false
set_option linter.unnecessarySimpa false
set_option maxRecDepth 100000
set_option linter.unnecessarySimpa false
set_option linter.unusedSimpArgs false
set_option linter.unusedSectionVars false
set_option maxRecDepth 100000
theorem refRises_l0 (l : List Int) (hl : l.length ≤ 4611686018427387904) : ∀ (t : List Int) (x : Int) (k : Nat), l.drop k = x :: t → M_thrumref06_rises_l0 l ((k + 1 : Nat) : Int) = some (if rising (x :: t) then .inr () else .inl false)
  | [], x, k, h => by
    have h1 := drop_at h
    rw [M_thrumref06_rises_l0, if_neg (drop_end h1.2.2)]
    simp [rising]
  | y :: t, x, k, h => by
    have h1 := drop_at h
    have h2 := drop_at h1.2.2
    have e1 : IntKind.i64.wrap (((k + 1 : Nat) : Int) - 1) = (k : Int) := by rw [i64_in _ (by omega)]; omega
    rw [M_thrumref06_rises_l0, if_pos h2.1, e1, if_pos (by omega), if_pos (by omega), h1.2.1, h2.2.1, i64_s (by omega), refRises_l0 l hl t y (k + 1) h1.2.2]
    by_cases hxy : x < y
    · rw [if_neg (by omega)]; simp [rising, hxy]
    · rw [if_pos (by omega)]; simp [rising, hxy]

theorem refRises_eq (l : List Int) (hl : l.length ≤ 4611686018427387904) : M_thrumref06_rises l = some (rising l) := by
  cases l with
  | nil => rw [M_thrumref06_rises, M_thrumref06_rises_l0]; simp [rising]
  | cons x t =>
    have := refRises_l0 (x :: t) hl t x 0 rfl
    rw [M_thrumref06_rises, show (1 : Int) = ((0 + 1 : Nat) : Int) from rfl, this]
    cases rising (x :: t) <;> rfl

theorem refCheck_l0 (dim : Int) (l : List Int) (hl : l.length ≤ 4611686018427387904) : ∀ (t : List Int) (k : Nat), l.drop k = t → M_thrumref06_Check_l0 dim l (k : Int) = some (if (t.all fun n => decide (0 ≤ n) && decide (n < dim)) then .inr () else .inl 1)
  | [], k, h => by
    rw [M_thrumref06_Check_l0, if_neg (drop_end h)]; rfl
  | x :: t, k, h => by
    have h1 := drop_at h
    rw [M_thrumref06_Check_l0, if_pos h1.1, if_pos (by omega), orB, h1.2.1, i64_s (by omega), refCheck_l0 dim l hl t (k + 1) h1.2.2]
    by_cases hx : 0 ≤ x ∧ x < dim
    · rw [if_neg (by simp; omega)]; simp [hx]
    · rw [if_pos (by simp; omega), if_neg (by simp; omega)]

theorem refCheck_eq (dim : Int) (l : List Int) (hl : l.length ≤ 4611686018427387904) : M_thrumref06_Check dim l = some (checkP dim l) := by
  rw [M_thrumref06_Check, orB, refRises_eq l hl, bindS, orB]
  have hc := refCheck_l0 dim l hl l 0 rfl
  rw [show ((0 : Nat) : Int) = 0 from rfl] at hc
  by_cases hm : meas dim = true
  · have hm' := hm
    simp only [meas, Bool.and_eq_true, decide_eq_true_eq] at hm'
    cases hr : rising l with
    | false => simp [checkP, placed, hr]
    | true =>
      rw [if_neg (by simp; omega), hc]
      by_cases ha : (l.all fun n => decide (0 ≤ n) && decide (n < dim)) = true
      · rw [if_pos ha, checkP, if_pos (by simp only [placed, hm, hr, ha, Bool.and_self])]; rfl
      · rw [if_neg ha, checkP, if_neg (by simp only [placed, hm, hr, Bool.true_and]; exact ha)]; rfl
  · have hm' := hm
    simp only [meas, Bool.and_eq_true, decide_eq_true_eq] at hm'
    rw [if_pos (by simp; omega), checkP, if_neg]
    simp only [placed, Bool.and_eq_true]
    exact fun h => hm h.1.1
set_option linter.unnecessarySimpa false
set_option linter.unusedSimpArgs false
set_option linter.unusedSectionVars false
set_option maxRecDepth 100000

theorem wid_half {n : Nat} (h : 0 < n) : wid n = wid (n / 2) + 1 := by
  by_cases h2 : n = 1
  · subst h2; rfl
  · have := wid_shift (n := n) (k := 1) (by omega)
    simpa using this
theorem wid_zero {n : Nat} (h : wid n = 0) : n = 0 := by
  rcases Nat.eq_zero_or_pos n with h0 | h0
  · exact h0
  · rw [wid_half h0] at h; omega
theorem wid_64x {n : Nat} (h : n < 18446744073709551616) : wid n ≤ 64 := wid_le.2 (by simpa using h)
theorem refWidth_l0 : ∀ (m n k : Nat), wid n = m → n < 18446744073709551616 → k + m ≤ 1000 → M_thrumref05_Width_l0 (k : Int) (n : Int) = some ((k + m : Nat) : Int)
  | 0, n, k, h, hn, hk => by
    have := wid_zero h
    subst this
    rw [M_thrumref05_Width_l0, if_neg (by simp)]; rfl
  | m + 1, n, k, h, hn, hk => by
    have h0 : 0 < n := by
      rcases Nat.eq_zero_or_pos n with h0 | h0
      · subst h0; have h9 : wid 0 = 0 := rfl
        omega
      · exact h0
    rw [wid_half h0] at h
    rw [M_thrumref05_Width_l0, if_pos (by omega), Int.tdiv_eq_ediv_of_nonneg (by omega), u64_in _ (by omega), i64_s (by omega), show ((n : Int) / 2) = ((n / 2 : Nat) : Int) by omega, refWidth_l0 m (n / 2) (k + 1) (by omega) (by omega) (by omega)]
    congr 1; omega
theorem refWidth_eq {n : Int} (h : 0 ≤ n ∧ n ≤ 18446744073709551615) : M_thrumref05_Width n = some ((wid n.toNat : Nat) : Int) := by
  have h64 : wid n.toNat ≤ 64 := wid_64x (by omega)
  have := refWidth_l0 (wid n.toNat) n.toNat 0 rfl (by omega) (by omega)
  rw [Int.toNat_of_nonneg h.1, show ((0 : Nat) : Int) = 0 from rfl] at this
  rw [M_thrumref05_Width, this, bindS, Nat.zero_add]
set_option linter.unnecessarySimpa false
set_option linter.unusedSimpArgs false
set_option linter.unusedSectionVars false
set_option maxRecDepth 100000

theorem refMay_l0 (s : T_api_Sent) (j2 : Bool) (hl : s.F_Lev.length ≤ 4611686018427387904) (hu : ∀ n ∈ s.F_Lev, 0 ≤ n ∧ n ≤ 18446744073709551615) : ∀ (t : List Int) (k : Nat), s.F_Lev.drop k = t → M_thrumref07_May_l0 s j2 (k : Int) = some (if (t.all fun n => decide ((wid n.toNat : Int) ≤ s.F_Wide)) = true then .inr () else .inl false)
  | [], k, h => by rw [M_thrumref07_May_l0, if_neg (drop_end h)]; rfl
  | x :: t, k, h => by
    obtain ⟨h1, h2, h3⟩ := drop_at h
    have hm : x ∈ s.F_Lev := by
      have : x ∈ s.F_Lev.drop k := by rw [h]; simp
      exact List.mem_of_mem_drop this
    rw [M_thrumref07_May_l0, if_pos h1, if_pos ⟨by omega, h1⟩, h2, refWidth_eq (hu x hm), bindS, i64_s (by omega), refMay_l0 s j2 hl hu t (k + 1) h3, List.all_cons]
    by_cases hw : ((wid x.toNat : Nat) : Int) > s.F_Wide
    · have : ¬ (((wid x.toNat : Nat) : Int) ≤ s.F_Wide) := by omega
      rw [if_pos hw, decide_eq_false this]; rfl
    · have : ((wid x.toNat : Nat) : Int) ≤ s.F_Wide := by omega
      rw [if_neg hw, decide_eq_true this, Bool.true_and]

theorem refMay_eq {s : T_api_Sent} (h : FitS s) : M_thrumref07_May s = some (mayP s) := by
  obtain ⟨h1, h2, h3, h4, h5⟩ := h
  have hl := fun j => refMay_l0 s j h3 h5 s.F_Lev 0 rfl
  rw [show ((0 : Nat) : Int) = 0 from rfl] at hl
  rw [M_thrumref07_May]
  simp only [orB, andB, hl, refCheck_eq _ _ h1, bindS]
  by_cases hd : (decide (s.F_Dim < 1) || decide (s.F_Dim > 4096)) = true
  · rw [if_pos hd]
    congr 1; symm
    rw [Bool.eq_false_iff]
    intro hm
    simp at hd
    cases may_iff.1 hm <;> omega
  rw [if_neg hd]
  simp at hd
  by_cases c0 : s.F_Scheme = 0
  · rw [if_pos c0]
    congr 1
    rw [Bool.eq_iff_iff]
    simp [mayP, bareP, c0, zeroS, dimOk]
    constructor
    · rintro ⟨⟨⟨a1, a2⟩, a3, a4⟩, a5, a6⟩
      exact ⟨⟨⟨by omega, by omega⟩, a2⟩, a1, a5, a3, a4, a6⟩
    · rintro ⟨⟨⟨_, _⟩, a2⟩, a1, a5, a3, a4, a6⟩
      exact ⟨⟨⟨a1, a2⟩, a3, a4⟩, a5, a6⟩
  rw [if_neg c0]
  by_cases c1 : s.F_Scheme = 1
  · rw [if_pos c1]
    congr 1
    rw [Bool.eq_iff_iff]
    simp [mayP, bareP, c0, c1, zeroS, dimOk]
    constructor
    · rintro ⟨⟨⟨a1, a2⟩, a3, a4⟩, a5, a6⟩
      exact ⟨⟨⟨⟨by omega, by omega⟩, a1⟩, by omega⟩, a5, a3, a4, a6⟩
    · rintro ⟨⟨⟨⟨_, _⟩, a1⟩, a2⟩, a5, a3, a4, a6⟩
      exact ⟨⟨⟨a1, by omega⟩, a3, a4⟩, a5, a6⟩
  rw [if_neg c1]
  by_cases c2 : s.F_Scheme = 2
  · rw [if_pos c2]
    by_cases hw : (decide ((decide (s.F_Wide < 1) || decide (s.F_Wide > 8)) = true) || ((s.F_Lev.length : Int) != s.F_Dim)) = true
    · rw [if_pos hw]
      congr 1; symm
      rw [Bool.eq_false_iff]
      intro hm
      simp at hw
      cases may_iff.1 hm <;> omega
    · rw [if_neg hw]
      simp at hw
      by_cases ha : (s.F_Lev.all fun n => decide ((wid n.toNat : Int) ≤ s.F_Wide)) = true
      · rw [if_pos ha]
        simp only [bindS]
        congr 1
        rw [Bool.eq_iff_iff]
        simp at ha
        simp [mayP, bareP, c0, c1, c2, zeroS, dimOk]
        constructor
        · rintro ⟨⟨⟨a1, a2⟩, a3⟩, a4⟩
          exact ⟨⟨⟨⟨⟨⟨⟨⟨by omega, by omega⟩, by omega⟩, by omega⟩, by omega⟩, ha⟩, a3⟩, a4⟩, a1, a2⟩
        · rintro ⟨⟨⟨_, a3⟩, a4⟩, a1, a2⟩
          exact ⟨⟨⟨a1, a2⟩, a3⟩, a4⟩
      · rw [if_neg ha]
        simp only [bindS]
        congr 1; symm
        rw [Bool.eq_false_iff]
        intro hm
        apply ha
        simp [mayP, bareP, c0, c1, c2, zeroS, dimOk] at hm
        simp
        exact hm.1.1.1.2
  rw [if_neg c2]
  by_cases c3 : s.F_Scheme = 3
  · rw [if_pos c3]
    congr 1
    rw [Bool.eq_iff_iff]
    simp [mayP, bareP, c0, c1, c2, c3, zeroS, dimOk]
    constructor
    · rintro ⟨⟨⟨⟨a1, a2⟩, a3, a4⟩, a5⟩, a6⟩
      exact ⟨⟨⟨⟨by omega, by omega⟩, a5⟩, a6⟩, a1, a2, a3, a4⟩
    · rintro ⟨⟨⟨_, a5⟩, a6⟩, a1, a2, a3, a4⟩
      exact ⟨⟨⟨⟨a1, a2⟩, a3, a4⟩, a5⟩, a6⟩
  · rw [if_neg c3]
    congr 1; symm
    rw [Bool.eq_false_iff]
    intro hm
    cases may_iff.1 hm <;> omega
end Go.Proofs.YtdgdgfckcnjpfaaGreat.Abs
