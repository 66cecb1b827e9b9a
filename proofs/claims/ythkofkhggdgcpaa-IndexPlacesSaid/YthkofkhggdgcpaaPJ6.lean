/- Plain facts: places, spread, gathered, left, merged, as the document has them. Conditions: none. -/
import Derived.Test.YthkofkhggdgcpaaPJ5
namespace Go.Proofs.Ythkofkhggdgcpaa.Abs
open Go Go.RowKit Go.IntWalk
set_option linter.unusedVariables false
set_option linter.unusedSimpArgs false
set_option maxRecDepth 100000

theorem few_l0 (L : List (List Int)) (hL : L.length ≤ 4611686018427387904) : ∀ (t : List (List Int)) (k : Nat) (a : Int), L.drop k = t → ∃ j, M_thrumlaw06_few_l0 L (k : Int) a = some j ∧ (∀ b : Nat, a = b → b + t.flatten.length ≤ 4611686018427387904 → j = ((b + t.flatten.length : Nat) : Int))
  | [], k, a, h => by
    refine ⟨a, by rw [M_thrumlaw06_few_l0, if_neg (drop_end h)], fun b hb _ => by rw [hb]; simp⟩
  | x :: t, k, a, h => by
    obtain ⟨h1, h2, h3⟩ := drop_at h
    obtain ⟨j, g1, g2⟩ := few_l0 L hL t (k + 1) (IntKind.i64.wrap (a + (x.length : Int))) h3
    refine ⟨j, ?_, fun b hb hs => ?_⟩
    · rw [M_thrumlaw06_few_l0, if_pos h1, if_pos ⟨by omega, h1⟩, h2, i64_s (by omega), g1]
    · simp only [List.flatten_cons, List.length_append] at hs ⊢
      have := g2 (b + x.length) (by rw [hb, i64_in _ (by omega)]; omega) (by omega)
      rw [this]; congr 1; omega
theorem flat_le {L : List (List Int)} {B : Nat} (h : ∀ l ∈ L, l.length ≤ B) : L.flatten.length ≤ L.length * B := by
  induction L with
  | nil => simp
  | cons x t ih =>
    have h1 := h x (by simp)
    have h2 := ih fun l hl => h l (List.mem_cons_of_mem _ hl)
    simp only [List.flatten_cons, List.length_append, List.length_cons, Nat.add_mul]
    omega
theorem le_flat {L : List (List Int)} {l : List Int} (h : l ∈ L) : l.length ≤ L.flatten.length := by
  induction L with
  | nil => simp at h
  | cons x t ih =>
    simp only [List.flatten_cons, List.length_append]
    rcases List.mem_cons.1 h with rfl | h
    · omega
    · have := ih h; omega
theorem few_eq (L : List (List Int)) (hL : L.length ≤ 4611686018427387904) (hl : ∀ l ∈ L, l.length ≤ 140737488355328) : ∃ b, M_thrumlaw06_few L = some b ∧ (b = true → L.length ≤ 100 ∧ L.flatten.length ≤ 600) := by
  obtain ⟨j, h1, h2⟩ := few_l0 L hL L 0 0 rfl
  rw [show ((0 : Nat) : Int) = 0 from rfl] at h1
  refine ⟨decide (j ≤ 600) && decide ((L.length : Int) ≤ 100), by rw [M_thrumlaw06_few, h1, bindS, andB], fun hb => ?_⟩
  simp only [Bool.and_eq_true, decide_eq_true_eq] at hb
  have h3 := flat_le hl
  have h4 : L.flatten.length ≤ 14073748835532800 := Nat.le_trans h3 (Nat.mul_le_mul_right 140737488355328 (show L.length ≤ 100 by omega))
  have h5 := h2 0 rfl (by omega)
  omega

theorem IndexPlaces_true (dim : Int) (l v : List Int) (L : List (List Int)) (n : Int) (hl : l.length ≤ 140737488355328) (hv : v.length ≤ 140737488355328) (hL : L.length ≤ 140737488355328) (hLl : ∀ a ∈ L, a.length ≤ 140737488355328) :
    M_thrumlaw06_IndexPlaces dim l v L n = some true := by
  rw [M_thrumlaw06_IndexPlaces, live6_eq, bindS, if_neg (by simp), few1_eq l (by omega), bindS]
  obtain ⟨b, hb1, hb2⟩ := few_eq L (by omega) hLl
  rw [hb1]
  by_cases h6 : l.length ≤ 600
  rotate_left
  · rw [if_pos (by simp; omega), bindS, if_pos rfl, bindS, if_pos rfl]
  rw [if_neg (by simp; omega), bindS, bindS]
  cases b with
  | false => simp only [Bool.not_false, if_true, bindS]
  | true =>
  obtain ⟨hb3, hb4⟩ := hb2 rfl
  simp only [Bool.not_true, Bool.false_eq_true, if_false, bindS]
  by_cases h5 : (v.length : Int) > 5000
  · rw [if_pos (by simpa using h5)]
  rw [if_neg (by simpa using h5), if_pos (room8 (by omega))]
  obtain ⟨r1, a1, a2, a3⟩ := Spread_all dim l v (by omega)
  obtain ⟨r2, b1, b2, b3⟩ := Gather_all l v (by omega)
  obtain ⟨r3, c1, c2, c3⟩ := Left_all dim l (by omega)
  rw [a1, bindS, a2, bindS, b1, bindS, b2, bindS, c1, bindS, c2, bindS, Same2_eq _ _ (by omega), bindS, if_neg (by simp), bindS, Same2_eq _ _ (by omega), Equal_eq _ _ (by omega), Equal_eq l l (by omega)]
  simp only [bne_self_eq_false, Bool.false_eq_true, if_false, bindS, decide_true, Bool.not_true]
  have hl1 : ∀ a ∈ L, a.length ≤ 1000 := fun a ha => by have := le_flat ha; omega
  have hmp : (mergeP L.flatten).length ≤ L.flatten.length := by
    have := compact_le (L.flatten.mergeSort fun x y => decide (x ≤ y))
    have e : (L.flatten.mergeSort fun x y => decide (x ≤ y)).length = L.flatten.length := by simp
    unfold mergeP; omega
  rw [Merge_eq L (by omega) (by omega), bindS, refMerge_eq L hl1 (by omega) (by omega), bindS, Equal_eq _ _ (by omega), bindS]
  rw [if_neg (by simp), M_thrumref06_Rises, refRises_eq l (by omega), bindS, bindS]
  cases hr : rising l with
  | false => rw [if_pos rfl]
  | true =>
    rw [if_neg (by simp), Has_eq l n (by omega) hr, bindS, refHas_eq l n (by omega), bindS]
    simp [bindS]
end Go.Proofs.Ythkofkhggdgcpaa.Abs
