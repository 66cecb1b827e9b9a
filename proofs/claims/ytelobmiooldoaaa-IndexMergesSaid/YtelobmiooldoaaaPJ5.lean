/- Plain facts on lists put together. Conditions: none. -/
import Derived.Test.YtelobmiooldoaaaPHm
namespace Go.Proofs.Ytelobmiooldoaaa.Abs
open Go Go.RowKit Go.IntWalk
set_option linter.unusedVariables false
set_option linter.unusedSimpArgs false
set_option maxRecDepth 100000
/-- Where a number stands. -/
def cntLt (l : List Int) (n : Int) : Nat := (l.takeWhile fun m => decide (m < n)).length
theorem cnt_spec : ∀ {l : List Int} {n : Int} {k : Nat}, k ≤ l.length → (∀ i, i < k → l.getD i 0 < n) → (∀ h : k < l.length, ¬ l.getD k 0 < n) → cntLt l n = k
  | [], n, k, hk, h1, h2 => by simp at hk; subst hk; rfl
  | x :: t, n, 0, hk, h1, h2 => by
    have := h2 (by simp)
    simp only [List.getD_cons_zero] at this
    simp [cntLt, List.takeWhile_cons, this]
  | x :: t, n, k + 1, hk, h1, h2 => by
    have hx := h1 0 (by omega)
    simp only [List.getD_cons_zero] at hx
    have := cnt_spec (l := t) (n := n) (k := k) (by simpa using hk) (fun i hi => by have := h1 (i + 1) (by omega); simpa using this) (fun h => by have := h2 (by simpa using h); simpa using this)
    simp only [cntLt] at this ⊢
    simp [List.takeWhile_cons, hx, this]

def hasP (l : List Int) (n : Int) : Int × Bool := ((cntLt l n : Int), decide (cntLt l n < l.length) && (at' l (cntLt l n : Int) == n))
theorem shr1 (n : Int) : sShr .u64 n 1 = n / 2 := by
  simp only [sShr]
  have : min (1 : Int).toNat IntKind.u64.bits = 1 := by decide
  rw [this, Int.fdiv_eq_ediv_of_nonneg _ (by decide)]; rfl
theorem Less_eq (a b : Int) : M_cmp_Less_int a b = some (decide (a < b)) := by
  rw [M_cmp_Less_int, M_cmp_isNaN_int, bindS, if_neg (by simp), bindS, if_neg (by simp), bindS]
theorem BS_l0 (l : List Int) (n : Int) (hl : l.length ≤ 1099511627776) (hr : l.Pairwise (· < ·)) : ∀ (g i j : Nat), j - i ≤ g → i ≤ j → j ≤ l.length → (∀ q, q < i → l.getD q 0 < n) → (∀ q, j ≤ q → q < l.length → ¬ l.getD q 0 < n) →
    M_slices_BinarySearch_int_int_l0 l n (j : Int) (i : Int) = some (cntLt l n : Int)
  | 0, i, j, hg, hij, hj, h1, h2 => by
    have e : i = j := by omega
    subst e
    rw [M_slices_BinarySearch_int_int_l0, if_neg (by omega), cnt_spec hj h1 (fun h => h2 i (Nat.le_refl _) h)]
  | g + 1, i, j, hg, hij, hj, h1, h2 => by
    rw [M_slices_BinarySearch_int_int_l0]
    by_cases hlt : i < j
    rotate_left
    · have e : i = j := by omega
      subst e
      rw [if_neg (by omega), cnt_spec hj h1 (fun h => h2 i (Nat.le_refl _) h)]
    have w1 : IntKind.i64.wrap ((i : Int) + (j : Int)) = (i : Int) + (j : Int) := i64_in _ (by omega)
    have w2 : IntKind.u64.wrap ((i : Int) + (j : Int)) = (i : Int) + (j : Int) := u64_in _ (by omega)
    rw [if_pos (by omega), w1, w2, shr1]
    have hh : ((i : Int) + (j : Int)) / 2 = (((i + j) / 2 : Nat) : Int) := by omega
    rw [hh, i64_in _ (by omega), bindS]
    generalize hm : (i + j) / 2 = m
    have hmi : i ≤ m ∧ m < j := by omega
    rw [if_pos (by omega), at'_nat, Less_eq, bindS]
    have hpw := List.pairwise_iff_getElem.1 hr
    have gd : ∀ q (h : q < l.length), l.getD q 0 = l[q] := fun q h => by simp [List.getD_eq_getElem?_getD, List.getElem?_eq_getElem h]
    have hdef : (default : Int) = 0 := rfl
    rw [hdef]
    by_cases hx : l.getD m 0 < n
    · rw [if_pos (by simpa using hx), i64_s (by omega)]
      refine BS_l0 l n hl hr g (m + 1) j (by omega) (by omega) hj (fun q hq => ?_) h2
      by_cases e : q = m
      · subst e; exact hx
      · have := hpw q m (by omega) (by omega) (by omega)
        rw [gd q (by omega)]; rw [gd m (by omega)] at hx; omega
    · rw [if_neg (by simpa using hx)]
      refine BS_l0 l n hl hr g i m (by omega) (by omega) (by omega) h1 (fun q hq hq2 => ?_)
      by_cases e : q = m
      · subst e; exact hx
      · have := hpw m q (by omega) (by omega) (by omega)
        rw [gd q hq2]; rw [gd m (by omega)] at hx; omega
theorem Has_eq (l : List Int) (n : Int) (hl : l.length ≤ 1099511627776) (hr : rising l = true) : M_index_Has l n = some (hasP l n) := by
  have h0 := BS_l0 l n hl (rising_iff.1 hr) l.length 0 l.length (by omega) (by omega) (Nat.le_refl _) (by omega) (by omega)
  rw [show ((0 : Nat) : Int) = 0 from rfl] at h0
  rw [M_index_Has, M_slices_BinarySearch_int_int, h0, bindS]
  have hle : cntLt l n ≤ l.length := (List.takeWhile_prefix _).length_le
  by_cases h : cntLt l n < l.length
  · rw [if_pos (by omega), if_pos (by omega), hasP]
    by_cases e : at' l (cntLt l n : Int) = n
    · rw [if_pos e, bindS]; simp [h, e]
    · rw [if_neg e, if_pos (by omega), M_slices_isNaN_int, bindS, if_neg (by simp), bindS]; simp [h, e]
  · rw [if_neg (by omega), bindS, hasP]; simp [h]
theorem hasP_mem {l : List Int} {n : Int} (hr : rising l = true) (hn : n ∈ l) : (hasP l n).2 = true := by
  obtain ⟨i, hi, e⟩ := List.getElem_of_mem hn
  have gd : ∀ q (h : q < l.length), l.getD q 0 = l[q] := fun q h => by simp [List.getD_eq_getElem?_getD, List.getElem?_eq_getElem h]
  have hpw := List.pairwise_iff_getElem.1 (rising_iff.1 hr)
  have hc : cntLt l n = i := cnt_spec (by omega) (fun q hq => by rw [gd q (by omega)]; have := hpw q i (by omega) hi hq; omega) (fun h => by rw [gd i h]; omega)
  rw [hasP, hc]
  simp only [hi, decide_true, Bool.true_and, at'_nat]
  rw [show (default : Int) = 0 from rfl, gd i hi, e]; simp
set_option linter.unusedSimpArgs false
set_option maxRecDepth 100000

theorem few_l0 (L : List (List Int)) (hL : L.length ≤ 4611686018427387904) : ∀ (t : List (List Int)) (k : Nat) (a : Int), L.drop k = t → ∃ j, M_thrumlaw06_few_l0 L (k : Int) a = some j ∧ (∀ b : Nat, a = b → b + t.flatten.length ≤ 4611686018427387904 → j = ((b + t.flatten.length : Nat) : Int))
  | [], k, a, h => by
    refine ⟨a, by rw [M_thrumlaw06_few_l0, if_neg (drop_end h)], fun b hb _ => by rw [hb]; simp⟩
  | x :: t, k, a, h => by
    obtain ⟨h1, h2, h3⟩ := drop_at h
    obtain ⟨j, g1, g2⟩ := few_l0 L hL t (k + 1) (IntKind.i64.wrap (a + (x.length : Int))) h3
    refine ⟨j, ?_, fun b hb hs => ?_⟩
    · rw [M_thrumlaw06_few_l0, if_pos h1, if_pos ⟨by omega, h1⟩, h2, i64_s (by omega), g1]
    · simp only [List.flatten_cons, List.length_append] at hs ⊢
      have := g2 (b + x.length) (by rw [hb, i64_in _ (by omega)]; omega) (by omega)
      rw [this]; congr 1; omega
theorem flat_le {L : List (List Int)} {B : Nat} (h : ∀ l ∈ L, l.length ≤ B) : L.flatten.length ≤ L.length * B := by
  induction L with
  | nil => simp
  | cons x t ih =>
    have h1 := h x (by simp)
    have h2 := ih fun l hl => h l (List.mem_cons_of_mem _ hl)
    simp only [List.flatten_cons, List.length_append, List.length_cons, Nat.add_mul]
    omega
theorem le_flat {L : List (List Int)} {l : List Int} (h : l ∈ L) : l.length ≤ L.flatten.length := by
  induction L with
  | nil => simp at h
  | cons x t ih =>
    simp only [List.flatten_cons, List.length_append]
    rcases List.mem_cons.1 h with rfl | h
    · omega
    · have := ih h; omega
theorem few_eq (L : List (List Int)) (hL : L.length ≤ 4611686018427387904) (hl : ∀ l ∈ L, l.length ≤ 140737488355328) : ∃ b, M_thrumlaw06_few L = some b ∧ (b = true → L.length ≤ 100 ∧ L.flatten.length ≤ 600) := by
  obtain ⟨j, h1, h2⟩ := few_l0 L hL L 0 0 rfl
  rw [show ((0 : Nat) : Int) = 0 from rfl] at h1
  refine ⟨decide (j ≤ 600) && decide ((L.length : Int) ≤ 100), by rw [M_thrumlaw06_few, h1, bindS, andB], fun hb => ?_⟩
  simp only [Bool.and_eq_true, decide_eq_true_eq] at hb
  have h3 := flat_le hl
  have h4 : L.flatten.length ≤ 14073748835532800 := Nat.le_trans h3 (Nat.mul_le_mul_right 140737488355328 (show L.length ≤ 100 by omega))
  have h5 := h2 0 rfl (by omega)
  omega
end Go.Proofs.Ytelobmiooldoaaa.Abs
