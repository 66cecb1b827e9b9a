/- Plain facts on lists put together. Conditions: none. -/
import Derived.Test.YtelobmiooldoaaaPJ1
import Derived.Test.YtelobmiooldoaaaSrtD
namespace Go.Proofs.Ytelobmiooldoaaa.Abs
open Go Go.RowKit Go.IntWalk
set_option linter.unusedVariables false
set_option linter.unusedSimpArgs false
set_option maxRecDepth 100000
set_option linter.unusedSimpArgs false
set_option maxRecDepth 100000
theorem compact_up (d : Array Int) (hs : ∀ i j, i ≤ j → j < d.size → d[i]! ≤ d[j]!) : ∀ m, m ≤ d.size → (Lib.compactUpTo d m).Pairwise (· < ·) ∧ ∀ n, n ∈ Lib.compactUpTo d m ↔ ∃ i, i < m ∧ d[i]! = n
  | 0, _ => by simp [Lib.compactUpTo]
  | m + 1, hm => by
    obtain ⟨h1, h2⟩ := compact_up d hs m (by omega)
    rw [Lib.compactUpTo_succ]
    have last : ∀ n, (∃ i, i < m + 1 ∧ d[i]! = n) ↔ (∃ i, i < m ∧ d[i]! = n) ∨ d[m]! = n := by
      intro n
      constructor
      · rintro ⟨i, hi, e⟩
        by_cases him : i = m
        · subst him; exact .inr e
        · exact .inl ⟨i, by omega, e⟩
      · rintro (⟨i, hi, e⟩ | e)
        · exact ⟨i, by omega, e⟩
        · exact ⟨m, by omega, e⟩
    cases hk : Lib.keeps d m with
    | true =>
      simp only [if_true]
      have hk' : m = 0 ∨ d[m]! ≠ d[m - 1]! := by simpa [Lib.keeps] using hk
      refine ⟨?_, fun n => ?_⟩
      · rw [List.pairwise_append]
        refine ⟨h1, by simp, ?_⟩
        intro x hx y hy
        obtain ⟨i, hi, e⟩ := (h2 x).1 hx
        have : y = d[m]! := by simpa using hy
        subst this
        rcases hk' with h0 | h0
        · omega
        · have a1 := hs i (m - 1) (by omega) (by omega)
          have a2 := hs (m - 1) m (by omega) (by omega)
          omega
      · rw [List.mem_append, h2, last]
        simp [eq_comm]
    | false =>
      simp only [Bool.false_eq_true, if_false, List.append_nil]
      have hk' : ¬ (m = 0 ∨ d[m]! ≠ d[m - 1]!) := by simpa [Lib.keeps] using hk
      refine ⟨h1, fun n => ?_⟩
      rw [h2, last]
      constructor
      · exact .inl
      · rintro (h | h)
        · exact h
        · refine ⟨m - 1, by omega, ?_⟩
          rw [← h]
          by_cases e : d[m]! = d[m - 1]!
          · exact e.symm
          · exact absurd (.inr e) hk'

def mergeP (l : List Int) : List Int := Lib.compact (l.mergeSort fun x y => decide (x ≤ y))
theorem mergeP_facts (l : List Int) : rising (mergeP l) = true ∧ ∀ n, n ∈ mergeP l ↔ n ∈ l := by
  have hp : (l.mergeSort fun x y => decide (x ≤ y)).Pairwise (fun x y => decide (x ≤ y) = true) :=
    List.pairwise_mergeSort (fun a b c h1 h2 => by simp at *; omega) (fun a b => by simp; omega) l
  generalize hd : (l.mergeSort fun x y => decide (x ≤ y)) = s at hp
  have hmem : ∀ n, n ∈ s ↔ n ∈ l := fun n => by rw [← hd]; exact List.mem_mergeSort
  have hs : ∀ i j, i ≤ j → j < s.toArray.size → s.toArray[i]! ≤ s.toArray[j]! := by
    intro i j hij hj
    have hj' : j < s.length := by simpa using hj
    rw [getElem!_pos s.toArray i (by simp; omega), getElem!_pos s.toArray j hj]
    simp only [List.getElem_toArray]
    by_cases e : i = j
    · subst e; exact Int.le_refl _
    · have := List.pairwise_iff_getElem.1 hp i j (by omega) hj' (by omega)
      simpa using this
  obtain ⟨h1, h2⟩ := compact_up s.toArray hs s.length (by simp)
  have e : mergeP l = Lib.compactUpTo s.toArray s.length := by rw [mergeP, hd, Lib.compact]
  rw [e]
  refine ⟨rising_iff.2 h1, fun n => ?_⟩
  rw [h2, ← hmem]
  constructor
  · rintro ⟨i, hi, e⟩
    rw [getElem!_pos s.toArray i (by simpa using hi)] at e
    subst e
    simp
  · intro hn
    obtain ⟨i, hi, e⟩ := List.getElem_of_mem hn
    refine ⟨i, hi, ?_⟩
    rw [getElem!_pos s.toArray i (by simpa using hi)]
    simpa using e

theorem Concat_l0 (L : List (List Int)) (hL : L.length ≤ 4611686018427387904) (hF : L.flatten.length ≤ 1099511627776) : ∀ (t : List (List Int)) (k a : Nat), L.drop k = t → a + t.flatten.length = L.flatten.length → M_slices_Concat_int_int_l0 L (k : Int) (a : Int) = some ((L.flatten.length : Nat) : Int)
  | [], k, a, h, ha => by
    rw [M_slices_Concat_int_int_l0, if_neg (drop_end h)]
    simp only [List.flatten_nil, List.length_nil, Nat.add_zero] at ha
    rw [ha]
  | x :: t, k, a, h, ha => by
    obtain ⟨h1, h2, h3⟩ := drop_at h
    have hl : a + x.length + t.flatten.length = L.flatten.length := by simp only [List.flatten_cons, List.length_append] at ha; omega
    rw [M_slices_Concat_int_int_l0, if_pos h1, if_pos ⟨by omega, h1⟩, h2, i64_in _ (by omega), if_neg (by omega), i64_s (by omega)]
    have := Concat_l0 L hL hF t (k + 1) (a + x.length) h3 hl
    rw [← this]
    congr 1
theorem Concat_l1 (L : List (List Int)) (hL : L.length ≤ 4611686018427387904) (hF : L.flatten.length ≤ 1099511627776) : ∀ (t : List (List Int)) (k : Nat) (acc : List Int), L.drop k = t → acc.length + t.flatten.length = L.flatten.length → M_slices_Concat_int_int_l1 L (k : Int) acc = some (acc ++ t.flatten)
  | [], k, acc, h, ha => by
    rw [M_slices_Concat_int_int_l1, if_neg (drop_end h)]; simp
  | x :: t, k, acc, h, ha => by
    obtain ⟨h1, h2, h3⟩ := drop_at h
    have hl : acc.length + x.length + t.flatten.length = L.flatten.length := by simp only [List.flatten_cons, List.length_append] at ha; omega
    rw [M_slices_Concat_int_int_l1, if_pos h1, if_pos ⟨by omega, h1⟩, h2, if_pos (room8 (by rw [List.length_append]; omega)), i64_s (by omega), Concat_l1 L hL hF t (k + 1) _ h3 (by rw [List.length_append]; omega)]
    simp
theorem Grow_eq {n : Nat} (hn : n ≤ 1099511627776) : M_slices_Grow_int_int_c (n : Int) = some [] := by
  rw [M_slices_Grow_int_int_c, if_neg (by omega), bindS]
  have e : IntKind.i64.wrap ((n : Int) - IntKind.i64.wrap (0 - 0)) = n := by
    rw [i64_in (0 - 0) (by omega), i64_in _ (by omega)]; omega
  rw [e]
  split
  · rw [if_pos (by omega), if_pos (by omega), bindS, if_pos]
    · simp [cut']
    · simp [cutOk]
  · rfl
theorem Concat_eq (L : List (List Int)) (hL : L.length ≤ 4611686018427387904) (hF : L.flatten.length ≤ 1099511627776) : M_slices_Concat_int_int L = some L.flatten := by
  have h0 := Concat_l0 L hL hF L 0 0 rfl (by omega)
  have h1 := Concat_l1 L hL hF L 0 [] rfl (by simp)
  rw [M_slices_Concat_int_int]
  rw [show ((0 : Nat) : Int) = 0 from rfl] at h0 h1
  rw [h0, bindS, Grow_eq hF, bindS, h1, bindS]
  simp
theorem Merge_eq (L : List (List Int)) (hL : L.length ≤ 4611686018427387904) (hF : L.flatten.length ≤ 1099511627776) : M_index_Merge L = some (mergeP L.flatten) := by
  have hl : (L.flatten.mergeSort fun x y => decide (x ≤ y)).length = L.flatten.length := by simp
  rw [M_index_Merge, Concat_eq L hL hF, bindS, M_slices_Sort_int, if_pos (by omega), bindS, M_slices_Compact_int, if_pos (by omega), bindS]
  rw [mergeP, List.take_left]
end Go.Proofs.Ytelobmiooldoaaa.Abs
