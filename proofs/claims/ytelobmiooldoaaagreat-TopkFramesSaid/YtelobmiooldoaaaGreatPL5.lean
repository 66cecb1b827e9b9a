/- Plain facts on lists that rise, and what is gathered. Conditions: none. -/
import Derived.Test.YtelobmiooldoaaaGreatPR7
namespace Go.Proofs.YtelobmiooldoaaaGreat.Abs
open Go Go.RowKit Go.IntWalk
set_option linter.unusedVariables false
set_option maxRecDepth 100000
theorem Equal_l0 (a b : List Int) (hl : a.length = b.length) (hb : a.length ≤ 4611686018427387904) : ∀ (t u : List Int) (k : Nat), a.drop k = t → b.drop k = u → M_thrumref06_Equal_l0 a b (k : Int) = some (if t = u then .inr () else .inl false)
  | [], u, k, h1, h2 => by
    have := List.drop_eq_nil_iff.1 h1
    have h3 : u = [] := by rw [← h2]; exact List.drop_eq_nil_of_le (by omega)
    rw [M_thrumref06_Equal_l0, if_neg (drop_end h1), h3]; rfl
  | x :: t, [], k, h1, h2 => by
    have := List.drop_eq_nil_iff.1 h2
    have := (drop_at h1).1
    omega
  | x :: t, y :: u, k, h1, h2 => by
    have g1 := drop_at h1
    have g2 := drop_at h2
    rw [M_thrumref06_Equal_l0, if_pos g1.1, if_pos (by omega), if_pos (by omega), g1.2.1, g2.2.1, i64_s (by omega), Equal_l0 a b hl hb t u (k + 1) g1.2.2 g2.2.2]
    by_cases hxy : x = y
    · subst hxy; simp
    · simp [hxy]

theorem Equal_eq (a b : List Int) (hb : a.length ≤ 4611686018427387904) : M_thrumref06_Equal a b = some (decide (a = b)) := by
  rw [M_thrumref06_Equal]
  by_cases hl : a.length = b.length
  · have := Equal_l0 a b hl hb a b 0 rfl rfl
    rw [show ((0 : Nat) : Int) = 0 from rfl] at this
    rw [if_neg (by omega), this]
    by_cases h : a = b
    · simp [h]
    · simp [h]
  · rw [if_pos (by omega), decide_eq_false (fun h => hl (by rw [h]))]
set_option linter.unusedSimpArgs false
set_option maxRecDepth 100000

theorem rising_iff : ∀ {l : List Int}, rising l = true ↔ l.Pairwise (· < ·)
  | [] => by simp [rising]
  | x :: t => by
    rw [List.pairwise_cons, ← rising_iff]
    exact ⟨fun h => ⟨rising_cons h, rising_tail h⟩, fun h => rising_mk h.2 h.1⟩
theorem rising_ext : ∀ {a b : List Int}, rising a = true → rising b = true → (∀ n, n ∈ a ↔ n ∈ b) → a = b
  | [], [], _, _, _ => rfl
  | [], y :: b, _, _, h => absurd ((h y).2 (by simp)) (by simp)
  | x :: a, [], _, _, h => absurd ((h x).1 (by simp)) (by simp)
  | x :: a, y :: b, ha, hb, h => by
    have hx := rising_cons ha
    have hy := rising_cons hb
    have e : x = y := by
      have h1 := (h x).1 (by simp)
      have h2 := (h y).2 (by simp)
      rcases List.mem_cons.1 h1 with h1 | h1
      · exact h1
      · rcases List.mem_cons.1 h2 with h2 | h2
        · exact h2.symm
        · have := hx y h2; have := hy x h1; omega
    subst e
    rw [rising_ext (rising_tail ha) (rising_tail hb) fun n => ?_]
    constructor
    · intro hn
      rcases List.mem_cons.1 ((h n).1 (List.mem_cons_of_mem _ hn)) with rfl | h1
      · exact absurd (hx _ hn) (by omega)
      · exact h1
    · intro hn
      rcases List.mem_cons.1 ((h n).2 (List.mem_cons_of_mem _ hn)) with rfl | h1
      · exact absurd (hy _ hn) (by omega)
      · exact h1
theorem Gc_eq (n : Int) (v : List Int) : M_index_Gather_1_c n v = some (decide (n < 0) || decide (n ≥ v.length)) := by rw [M_index_Gather_1_c, orB]

theorem IndexFunc_l0 (l v : List Int) (hl : l.length ≤ 4611686018427387904) : ∀ (t : List Int) (k : Nat), l.drop k = t → ∃ e, M_slices_IndexFunc_int_int_index_Gather_1_l0 l v (k : Int) = some e ∧ ((∀ n ∈ t, 0 ≤ n ∧ n < v.length) → e = .inr ()) ∧ (¬ (∀ n ∈ t, 0 ≤ n ∧ n < v.length) → ∃ i : Int, 0 ≤ i ∧ e = .inl i)
  | [], k, h => by
    rw [M_slices_IndexFunc_int_int_index_Gather_1_l0, if_neg (drop_end h)]
    exact ⟨_, rfl, fun _ => rfl, fun h => absurd (by simp) h⟩
  | x :: t, k, h => by
    have h1 := drop_at h
    obtain ⟨e, g1, g2, g3⟩ := IndexFunc_l0 l v hl t (k + 1) h1.2.2
    rw [M_slices_IndexFunc_int_int_index_Gather_1_l0, if_pos h1.1, if_pos (by omega), h1.2.1, Gc_eq, bindS, i64_s (by omega), g1]
    by_cases hx : 0 ≤ x ∧ x < v.length
    · rw [if_neg (by simp; omega)]
      refine ⟨e, rfl, fun h => g2 fun n hn => h n (by simp [hn]), fun h => g3 fun h' => h fun n hn => ?_⟩
      rcases List.mem_cons.1 hn with rfl | hn
      · exact hx
      · exact h' n hn
    · rw [if_pos (by simp; omega)]
      exact ⟨_, rfl, fun h => absurd (h x (by simp)) hx, fun _ => ⟨k, by omega, rfl⟩⟩

theorem Contains_eq (l v : List Int) (hl : l.length ≤ 4611686018427387904) : M_slices_ContainsFunc_int_int_index_Gather_1 l v = some (decide (¬ ∀ n ∈ l, 0 ≤ n ∧ n < (v.length : Int))) := by
  rw [M_slices_ContainsFunc_int_int_index_Gather_1, M_slices_IndexFunc_int_int_index_Gather_1]
  obtain ⟨e, g1, g2, g3⟩ := IndexFunc_l0 l v hl l 0 rfl
  rw [show ((0 : Nat) : Int) = 0 from rfl] at g1
  rw [g1]
  by_cases h : ∀ n ∈ l, 0 ≤ n ∧ n < (v.length : Int)
  · rw [g2 h, decide_eq_false (by simpa using h)]; rfl
  · obtain ⟨i, h0, rfl⟩ := g3 h
    rw [decide_eq_true h]
    simp [bindS, h0]

theorem Gather_l0 (l v : List Int) (hl : l.length ≤ 1099511627776) (hv : ∀ n ∈ l, 0 ≤ n ∧ n < (v.length : Int)) : ∀ (t : List Int) (k : Nat) (acc : List Int), l.drop k = t → acc.length ≤ k → M_index_Gather_l0 l v (k : Int) acc = some (acc ++ t.map (at' v))
  | [], k, acc, h, ha => by
    rw [M_index_Gather_l0, if_neg (drop_end h)]; simp
  | x :: t, k, acc, h, ha => by
    have h1 := drop_at h
    have hx := hv x (List.mem_of_mem_drop (by rw [h]; simp))
    rw [M_index_Gather_l0, if_pos h1.1, if_pos (by omega), h1.2.1, if_pos hx, if_pos (room8 (by simp; omega)), bindS, i64_s (by omega), Gather_l0 l v hl hv t (k + 1) _ h1.2.2 (by simp; omega)]
    simp

theorem Gather_eq (l v : List Int) (hl : l.length ≤ 1099511627776) (hr : rising l = true) (hv : ∀ n ∈ l, 0 ≤ n ∧ n < (v.length : Int)) : M_index_Gather l v = some (l.map (at' v), 0) := by
  have h1 := Gather_l0 l v hl hv l 0 [] rfl (by simp)
  rw [show ((0 : Nat) : Int) = 0 from rfl] at h1
  have hd : decide (¬ ∀ n ∈ l, 0 ≤ n ∧ n < (v.length : Int)) = false := decide_eq_false (fun h => h hv)
  rw [M_index_Gather, rises_eq l (by omega), bindS, hr, Contains_eq l v (by omega), bindS, orB, hd, if_neg (by simp), if_pos (by omega), bindS]
  simp only [Int.toNat_zero, List.replicate_zero]
  rw [h1]; simp
end Go.Proofs.YtelobmiooldoaaaGreat.Abs
