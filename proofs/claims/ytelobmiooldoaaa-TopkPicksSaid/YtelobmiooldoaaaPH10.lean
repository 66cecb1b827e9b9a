/- Plain facts: what the document presses, and the least size. Conditions: none. -/
import Derived.Test.YtelobmiooldoaaaPH9
namespace Go.Proofs.Ytelobmiooldoaaa.Abs
open Go Go.RowKit Go.IntWalk
set_option linter.unusedVariables false
set_option linter.unusedSimpArgs false
set_option linter.unusedSectionVars false
set_option maxRecDepth 100000

theorem refLeast_l0 (l v : List Int) (hi : I64s v) (hl : l.length ≤ 4611686018427387904) : ∀ (t : List Int) (k : Nat) (b : Bool) (x : Int), l.drop k = t → M_thrumref09_Least_l0 l v (k : Int) b x = some (leastG v t b x)
  | [], k, b, x, h => by rw [M_thrumref09_Least_l0, if_neg (drop_end h)]; rfl
  | n :: t, k, b, x, h => by
    obtain ⟨h1, h2, h3⟩ := drop_at h
    rw [M_thrumref09_Least_l0, if_pos h1, if_pos ⟨by omega, h1⟩, h2, orB, i64_s (by omega), leastG]
    by_cases hn : n < 0 ∨ n ≥ (v.length : Int)
    · rw [if_pos (by simp; omega), if_pos hn, refLeast_l0 l v hi hl t (k + 1) b x h3]
    · rw [if_neg (by simp; omega), if_neg hn, if_pos (by omega), refSize_eq (at_I64 hi), bindS]
      cases b with
      | false => rw [if_pos rfl, bindS, if_pos rfl, if_pos (.inl rfl), refLeast_l0 l v hi hl t (k + 1) true _ h3]
      | true =>
        rw [if_neg (by simp), bindS]
        by_cases hs : sizeP (at' v n) < x
        · rw [if_pos (by simpa using hs), if_pos (.inr hs), refLeast_l0 l v hi hl t (k + 1) true _ h3]
        · rw [if_neg (by simpa using hs), if_neg (by simp; omega), refLeast_l0 l v hi hl t (k + 1) true _ h3]
theorem refLeast_eq (l v : List Int) (hi : I64s v) (hl : l.length ≤ 4611686018427387904) : M_thrumref09_Least l v = some ((leastG v l false 0).2, (leastG v l false 0).1) := by
  have h := refLeast_l0 l v hi hl l 0 false 0 rfl
  rw [show ((0 : Nat) : Int) = 0 from rfl] at h
  rw [M_thrumref09_Least, h, bindS]

theorem refPress_l0 (v l : List Int) (e : Int) (hl : l.length ≤ 50000) (hin : ∀ n ∈ l, 0 ≤ n ∧ n < (v.length : Int)) : ∀ (t : List Int) (k : Nat) (acc : List Int), l.drop k = t → acc.length ≤ k → M_thrumref09_Press_l0 v (l, e) (k : Int) acc = some (acc ++ t.map (at' v))
  | [], k, acc, h, ha => by
    rw [M_thrumref09_Press_l0]
    simp only
    rw [if_neg (drop_end h)]; simp
  | x :: t, k, acc, h, ha => by
    obtain ⟨h1, h2, h3⟩ := drop_at h
    have hx : x ∈ l := by
      have : x ∈ l.drop k := by rw [h]; simp
      exact List.mem_of_mem_drop this
    have hb := hin x hx
    rw [M_thrumref09_Press_l0]
    simp only
    rw [if_pos h1, if_pos ⟨by omega, h1⟩, h2, if_pos hb, if_pos (room8 (by simp; omega)), bindS, i64_s (by omega), refPress_l0 v l e hl hin t (k + 1) _ h3 (by simp; omega)]
    simp
theorem refPress_eq (k0 : Int) (v : List Int) (hi : I64s v) (hv : v.length ≤ 600 ∨ 4096 < v.length ∧ v.length ≤ 5000) : ∃ r, M_topk_Press k0 v = some r ∧ M_thrumref09_Press k0 v = some r := by
  by_cases h0 : (v.length : Int) = 0
  · exact ⟨_, by rw [M_topk_Press, if_pos h0], by rw [M_thrumref09_Press, if_pos h0]⟩
  obtain ⟨r, h1, h2, h3, h4, h5⟩ := refPick_eq k0 v hi (by omega)
  rw [M_topk_Press, if_neg h0, h1, bindS, M_thrumref09_Press, if_neg h0, h2, bindS]
  obtain ⟨l, e⟩ := r
  simp only at *
  by_cases he : e ≠ 0
  · exact ⟨_, by rw [if_pos he], by rw [if_pos he]⟩
  · rw [if_neg he, if_neg he]
    have hG := Gather_eq l v (by omega) h5 h4
    have hP := refPress_l0 v l e (by omega) h4 l 0 [] rfl (by simp)
    rw [show ((0 : Nat) : Int) = 0 from rfl] at hP
    rw [hG, bindS, hP, bindS]
    simp only
    rw [if_neg (by simp)]
    exact ⟨_, rfl, rfl⟩
end Go.Proofs.Ytelobmiooldoaaa.Abs
