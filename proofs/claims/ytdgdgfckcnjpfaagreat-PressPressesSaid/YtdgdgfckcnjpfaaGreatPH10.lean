/- Plain facts: what the document presses. Conditions: none. -/
import Derived.Test.YtdgdgfckcnjpfaaGreatPH9
namespace Go.Proofs.YtdgdgfckcnjpfaaGreat.Abs
open Go Go.RowKit Go.IntWalk
set_option linter.unusedVariables false
set_option linter.unusedSimpArgs false
set_option linter.unusedSectionVars false
set_option linter.unnecessarySimpa false
set_option maxRecDepth 100000
theorem refPress_l0 (v l : List Int) (e : Int) (hl : l.length ≤ 50000) (hin : ∀ n ∈ l, 0 ≤ n ∧ n < (v.length : Int)) : ∀ (t : List Int) (k : Nat) (acc : List Int), l.drop k = t → acc.length ≤ k → M_thrumref09_Press_l0 v (l, e) (k : Int) acc = some (acc ++ t.map (at' v))
  | [], k, acc, h, ha => by
    rw [M_thrumref09_Press_l0]
    simp only
    rw [if_neg (drop_end h)]; simp
  | x :: t, k, acc, h, ha => by
    obtain ⟨h1, h2, h3⟩ := drop_at h
    have hx : x ∈ l := by
      have : x ∈ l.drop k := by rw [h]; simp
      exact List.mem_of_mem_drop this
    have hb := hin x hx
    rw [M_thrumref09_Press_l0]
    simp only
    rw [if_pos h1, if_pos ⟨by omega, h1⟩, h2, if_pos hb, if_pos (room8 (by simp; omega)), bindS, i64_s (by omega), refPress_l0 v l e hl hin t (k + 1) _ h3 (by simp; omega)]
    simp
theorem refPress_eq (k0 : Int) (v : List Int) (hi : I64s v) (hv : v.length ≤ 600 ∨ 4096 < v.length ∧ v.length ≤ 5000) : ∃ r, M_topk_Press k0 v = some r ∧ M_thrumref09_Press k0 v = some r := by
  by_cases h0 : (v.length : Int) = 0
  · exact ⟨_, by rw [M_topk_Press, if_pos h0], by rw [M_thrumref09_Press, if_pos h0]⟩
  obtain ⟨r, h1, h2, h3, h4, h5⟩ := refPick_eq k0 v hi (by omega)
  rw [M_topk_Press, if_neg h0, h1, bindS, M_thrumref09_Press, if_neg h0, h2, bindS]
  obtain ⟨l, e⟩ := r
  simp only at *
  by_cases he : e ≠ 0
  · exact ⟨_, by rw [if_pos he], by rw [if_pos he]⟩
  · rw [if_neg he, if_neg he]
    have hG := Gather_eq l v (by omega) h5 h4
    have hP := refPress_l0 v l e (by omega) h4 l 0 [] rfl (by simp)
    rw [show ((0 : Nat) : Int) = 0 from rfl] at hP
    rw [hG, bindS, hP, bindS]
    simp only
    rw [if_neg (by simp)]
    exact ⟨_, rfl, rfl⟩
end Go.Proofs.YtdgdgfckcnjpfaaGreat.Abs
