/- Plain facts: what the document writes. Conditions: none. -/
import Derived.Test.YtelobmiooldoaaaGreatPR2
namespace Go.Proofs.YtelobmiooldoaaaGreat.Abs
open Go Go.RowKit Go.IntWalk Crc
set_option linter.unusedVariables false
set_option linter.unnecessarySimpa false
set_option linter.unusedSimpArgs false
set_option linter.unusedSectionVars false
set_option maxRecDepth 100000

theorem refMay_l0 (s : T_api_Sent) (j2 : Bool) (hl : s.F_Lev.length ≤ 4611686018427387904) (hu : ∀ n ∈ s.F_Lev, 0 ≤ n ∧ n ≤ 18446744073709551615) : ∀ (t : List Int) (k : Nat), s.F_Lev.drop k = t → M_thrumref07_May_l0 s j2 (k : Int) = some (if (t.all fun n => decide ((wid n.toNat : Int) ≤ s.F_Wide)) = true then .inr () else .inl false)
  | [], k, h => by rw [M_thrumref07_May_l0, if_neg (drop_end h)]; rfl
  | x :: t, k, h => by
    obtain ⟨h1, h2, h3⟩ := drop_at h
    have hm : x ∈ s.F_Lev := by
      have : x ∈ s.F_Lev.drop k := by rw [h]; simp
      exact List.mem_of_mem_drop this
    rw [M_thrumref07_May_l0, if_pos h1, if_pos ⟨by omega, h1⟩, h2, refWidth_eq (hu x hm), bindS, i64_s (by omega), refMay_l0 s j2 hl hu t (k + 1) h3, List.all_cons]
    by_cases hw : ((wid x.toNat : Nat) : Int) > s.F_Wide
    · have : ¬ (((wid x.toNat : Nat) : Int) ≤ s.F_Wide) := by omega
      rw [if_pos hw, decide_eq_false this]; rfl
    · have : ((wid x.toNat : Nat) : Int) ≤ s.F_Wide := by omega
      rw [if_neg hw, decide_eq_true this, Bool.true_and]

theorem refMay_eq {s : T_api_Sent} (h : FitS s) : M_thrumref07_May s = some (mayP s) := by
  obtain ⟨h1, h2, h3, h4, h5⟩ := h
  have hl := fun j => refMay_l0 s j h3 h5 s.F_Lev 0 rfl
  rw [show ((0 : Nat) : Int) = 0 from rfl] at hl
  rw [M_thrumref07_May]
  simp only [orB, andB, hl, refCheck_eq _ _ h1, bindS]
  by_cases hd : (decide (s.F_Dim < 1) || decide (s.F_Dim > 4096)) = true
  · rw [if_pos hd]
    congr 1; symm
    rw [Bool.eq_false_iff]
    intro hm
    simp at hd
    cases may_iff.1 hm <;> omega
  rw [if_neg hd]
  simp at hd
  by_cases c0 : s.F_Scheme = 0
  · rw [if_pos c0]
    congr 1
    rw [Bool.eq_iff_iff]
    simp [mayP, bareP, c0, zeroS, dimOk]
    constructor
    · rintro ⟨⟨⟨a1, a2⟩, a3, a4⟩, a5, a6⟩
      exact ⟨⟨⟨by omega, by omega⟩, a2⟩, a1, a5, a3, a4, a6⟩
    · rintro ⟨⟨⟨_, _⟩, a2⟩, a1, a5, a3, a4, a6⟩
      exact ⟨⟨⟨a1, a2⟩, a3, a4⟩, a5, a6⟩
  rw [if_neg c0]
  by_cases c1 : s.F_Scheme = 1
  · rw [if_pos c1]
    congr 1
    rw [Bool.eq_iff_iff]
    simp [mayP, bareP, c0, c1, zeroS, dimOk]
    constructor
    · rintro ⟨⟨⟨a1, a2⟩, a3, a4⟩, a5, a6⟩
      exact ⟨⟨⟨⟨by omega, by omega⟩, a1⟩, by omega⟩, a5, a3, a4, a6⟩
    · rintro ⟨⟨⟨⟨_, _⟩, a1⟩, a2⟩, a5, a3, a4, a6⟩
      exact ⟨⟨⟨a1, by omega⟩, a3, a4⟩, a5, a6⟩
  rw [if_neg c1]
  by_cases c2 : s.F_Scheme = 2
  · rw [if_pos c2]
    by_cases hw : (decide ((decide (s.F_Wide < 1) || decide (s.F_Wide > 8)) = true) || ((s.F_Lev.length : Int) != s.F_Dim)) = true
    · rw [if_pos hw]
      congr 1; symm
      rw [Bool.eq_false_iff]
      intro hm
      simp at hw
      cases may_iff.1 hm <;> omega
    · rw [if_neg hw]
      simp at hw
      by_cases ha : (s.F_Lev.all fun n => decide ((wid n.toNat : Int) ≤ s.F_Wide)) = true
      · rw [if_pos ha]
        simp only [bindS]
        congr 1
        rw [Bool.eq_iff_iff]
        simp at ha
        simp [mayP, bareP, c0, c1, c2, zeroS, dimOk]
        constructor
        · rintro ⟨⟨⟨a1, a2⟩, a3⟩, a4⟩
          exact ⟨⟨⟨⟨⟨⟨⟨⟨by omega, by omega⟩, by omega⟩, by omega⟩, by omega⟩, ha⟩, a3⟩, a4⟩, a1, a2⟩
        · rintro ⟨⟨⟨_, a3⟩, a4⟩, a1, a2⟩
          exact ⟨⟨⟨a1, a2⟩, a3⟩, a4⟩
      · rw [if_neg ha]
        simp only [bindS]
        congr 1; symm
        rw [Bool.eq_false_iff]
        intro hm
        apply ha
        simp [mayP, bareP, c0, c1, c2, zeroS, dimOk] at hm
        simp
        exact hm.1.1.1.2
  rw [if_neg c2]
  by_cases c3 : s.F_Scheme = 3
  · rw [if_pos c3]
    congr 1
    rw [Bool.eq_iff_iff]
    simp [mayP, bareP, c0, c1, c2, c3, zeroS, dimOk]
    constructor
    · rintro ⟨⟨⟨⟨a1, a2⟩, a3, a4⟩, a5⟩, a6⟩
      exact ⟨⟨⟨⟨by omega, by omega⟩, a5⟩, a6⟩, a1, a2, a3, a4⟩
    · rintro ⟨⟨⟨_, a5⟩, a6⟩, a1, a2, a3, a4⟩
      exact ⟨⟨⟨⟨a1, a2⟩, a3, a4⟩, a5⟩, a6⟩
  · rw [if_neg c3]
    congr 1; symm
    rw [Bool.eq_false_iff]
    intro hm
    cases may_iff.1 hm <;> omega

theorem FitS.lens {s : T_api_Sent} (h : FitS s) : Lens s := ⟨h.L, h.V, h.Lev, h.Neg⟩
theorem refFCheck_eq {f : T_api_Frame} (h : FitS f.F_S) : M_thrumref07_Check f = some (if frameOk f then 0 else 1) := by
  rw [M_thrumref07_Check]
  simp only [andB, refMay_eq h, SameSent_eq h.lens, bindS, Bool.decide_eq_true]
  unfold frameOk zeroS
  by_cases a : 0 ≤ f.F_From <;> by_cases b : f.F_From < 64 <;> by_cases c : 0 ≤ f.F_Step <;> by_cases d : f.F_Step ≤ 1073741824 <;> simp [a, b, c, d]
  by_cases k1 : f.F_Kind = 1
  · simp only [k1, true_and, if_pos, Int.reduceEq, false_and, or_false]
    cases mayP f.F_S <;> simp
  · by_cases k2 : f.F_Kind = 2
    · simp only [k2, Int.reduceEq, false_and, false_or, true_and, if_true, if_false]
      by_cases hz : f.F_S = ⟨0, 0, [], [], 0, 0, [], []⟩ <;> simp [hz]
    · simp [k1, k2]
theorem refFSame_eq {f g : T_api_Frame} (h : FitS f.F_S) : M_thrumref07_Same f g = some (decide (f = g)) := by
  obtain ⟨f1, f2, f3, f4⟩ := f
  obtain ⟨g1, g2, g3, g4⟩ := g
  rw [M_thrumref07_Same]
  simp only at h
  simp only [SameSent_eq h.lens, bindS, andB]
  congr 1
  rw [Bool.eq_iff_iff]
  simp [and_assoc]
theorem refOpenI_eq {b : List Int} (hu : U8s b) (h : b.length ≤ 70000) : M_thrumref04_Open b = some (openI b) := by
  have := refOpen_eq (bytesL b) (by rw [bytesL_len]; exact h)
  rwa [bytesL_Yn hu] at this

structure NotBig (s : T_api_Sent) : Prop where
  l : s.F_L.length ≤ 500
  v : s.F_V.length ≤ 500
end Go.Proofs.YtelobmiooldoaaaGreat.Abs
