/- Plain facts on what is picked. Conditions: none. -/
import Derived.Test.YtelobmiooldoaaaGreatPH3
namespace Go.Proofs.YtelobmiooldoaaaGreat.Abs
open Go Go.RowKit Go.IntWalk
set_option linter.unusedVariables false
set_option linter.unusedSimpArgs false
set_option linter.unusedSectionVars false
set_option maxRecDepth 100000
set_option linter.unusedSimpArgs false
set_option linter.unusedSectionVars false
set_option maxRecDepth 100000
set_option linter.unusedSimpArgs false
set_option linter.unusedSectionVars false
set_option maxRecDepth 100000

def I64s (v : List Int) : Prop := ∀ n ∈ v, -9223372036854775808 ≤ n ∧ n ≤ 9223372036854775807

/-- The least size. -/
def leastG (v : List Int) : List Int → Bool → Int → Bool × Int
  | [], b, x => (b, x)
  | n :: t, b, x => if n < 0 ∨ n ≥ (v.length : Int) then leastG v t b x else if b = false ∨ sizeP (at' v n) < x then leastG v t true (sizeP (at' v n)) else leastG v t b x
theorem Least_l0 (l v : List Int) (hl : l.length ≤ 4611686018427387904) : ∀ (t : List Int) (k : Nat) (b : Bool) (x : Int), l.drop k = t → M_topk_Least_l0 l v (k : Int) b x = some (leastG v t b x)
  | [], k, b, x, h => by rw [M_topk_Least_l0, if_neg (drop_end h)]; rfl
  | n :: t, k, b, x, h => by
    obtain ⟨h1, h2, h3⟩ := drop_at h
    rw [M_topk_Least_l0, if_pos h1, if_pos ⟨by omega, h1⟩, h2, orB, i64_s (by omega), leastG]
    by_cases hn : n < 0 ∨ n ≥ (v.length : Int)
    · rw [if_pos (by simp; omega), if_pos hn, Least_l0 l v hl t (k + 1) b x h3]
    · rw [if_neg (by simp; omega), if_neg hn, if_pos (by omega), size_eq, bindS]
      cases b with
      | false => rw [if_pos rfl, bindS, if_pos rfl, if_pos (.inl rfl), Least_l0 l v hl t (k + 1) true _ h3]
      | true =>
        rw [if_neg (by simp), bindS]
        by_cases hs : sizeP (at' v n) < x
        · rw [if_pos (by simpa using hs), if_pos (.inr hs), Least_l0 l v hl t (k + 1) true _ h3]
        · rw [if_neg (by simpa using hs), if_neg (by simp; omega), Least_l0 l v hl t (k + 1) true _ h3]
theorem Least_eq (l v : List Int) (hl : l.length ≤ 4611686018427387904) : M_topk_Least l v = some ((leastG v l false 0).2, (leastG v l false 0).1) := by
  have h := Least_l0 l v hl l 0 false 0 rfl
  rw [show ((0 : Nat) : Int) = 0 from rfl] at h
  rw [M_topk_Least, h, bindS]
theorem live_pick : pickP 2 [3, -5, 5, 1] = [1, 2] := by kernel_rfl
theorem live_least : leastG [3, -5, 5, 1] [1, 2] false 0 = (true, 5) := by kernel_rfl
theorem live9_eq : M_thrumlaw09_live = some true := by
  obtain ⟨h, _⟩ := Pick_ok 2 [3, -5, 5, 1] (by simp) (by simp)
  rw [show ((2 : Nat) : Int) = 2 from rfl, live_pick] at h
  rw [M_thrumlaw09_live, h, bindS, Least_eq _ _ (by simp), bindS, live_least]
  simp only [if_true]
  rw [Equal_eq _ _ (by simp)]
  simp [bindS]
theorem few9_eq (v : List Int) : ∃ b, M_thrumlaw09_few v = some b ∧ (b = true → v.length ≤ 200 ∨ (4096 < v.length ∧ v.length ≤ 5000)) := by
  rw [M_thrumlaw09_few]
  by_cases h1 : (v.length : Int) ≤ 200
  · exact ⟨true, by rw [if_pos h1], fun _ => .inl (by omega)⟩
  · rw [if_neg h1]
    by_cases h2 : (v.length : Int) > 4096
    · refine ⟨_, by rw [if_pos h2], fun h => .inr ⟨by omega, ?_⟩⟩
      have : (v.length : Int) ≤ 5000 := by simpa using h
      omega
    · exact ⟨false, by rw [if_neg h2], fun h => by cases h⟩
end Go.Proofs.YtelobmiooldoaaaGreat.Abs
