/- Sums of texts turned by one another: CrcLinear. Conditions: none but that numbers are of their kinds. -/
import Derived.Test.YtaghpancpfpnhaaPC4
namespace Go.Proofs.Ytaghpancpfpnhaa.Abs
open Go Go.RowKit Go.IntWalk Crc
set_option linter.unusedVariables false
set_option linter.unusedSimpArgs false
set_option maxRecDepth 100000

theorem sum_xor3 (a b c : List (BitVec 8)) (h1 : a.length = b.length) (h2 : a.length = c.length) : sumB (xorB (xorB a b) c) = sumB a ^^^ sumB b ^^^ sumB c := by
  have e : ∀ t, sumB t = ~~~ (t.foldl feed (BitVec.allOnes 32)) := fun t => by rw [sumB, moreB, BitVec.not_zero]
  have k1 := fold_xor a b (BitVec.allOnes 32) (BitVec.allOnes 32) h1
  have k2 := fold_xor (xorB a b) c (BitVec.allOnes 32 ^^^ BitVec.allOnes 32) (BitVec.allOnes 32) (by rw [xorB_len h1, h2])
  rw [k1, BitVec.xor_self, BitVec.zero_xor] at k2
  rw [e, e, e, e, k2]
  generalize a.foldl feed (BitVec.allOnes 32) = x
  generalize b.foldl feed (BitVec.allOnes 32) = y
  generalize c.foldl feed (BitVec.allOnes 32) = z
  apply BitVec.eq_of_getLsbD_eq
  intro i hi
  simp only [BitVec.getLsbD_not, BitVec.getLsbD_xor, hi, decide_true, Bool.true_and]
  cases x.getLsbD i <;> cases y.getLsbD i <;> cases z.getLsbD i <;> rfl

/-- Three texts' first bytes, turned by one another. -/
def xor3 (a b c : List (BitVec 8)) (n : Nat) : List (BitVec 8) := xorB (xorB (a.take n) (b.take n)) (c.take n)
theorem xor3_len {a b c : List (BitVec 8)} {n : Nat} (ha : n ≤ a.length) (hb : n ≤ b.length) (hc : n ≤ c.length) : (xor3 a b c n).length = n := by
  simp [xor3, xorB]; omega
theorem xor3_at {a b c : List (BitVec 8)} {n i : Nat} (ha : n ≤ a.length) (hb : n ≤ b.length) (hc : n ≤ c.length) (hi : i < n) : (xor3 a b c n).getD i 0#8 = a.getD i 0#8 ^^^ b.getD i 0#8 ^^^ c.getD i 0#8 := by
  have h1 : i < a.length := by omega
  have h2 : i < b.length := by omega
  have h3 : i < c.length := by omega
  simp [xor3, xorB, List.getElem?_zipWith, List.getElem?_take, hi, h1, h2, h3]

theorem linear_l0 (a b c : List (BitVec 8)) (n : Nat) (y : Int) (ha : n ≤ a.length) (hb : n ≤ b.length) (hc : n ≤ c.length) (hn : n ≤ 3000) : ∀ (k i : Nat) (l : List (BitVec 8)), i + k = n → l.length = n → (∀ j < i, l.getD j 0#8 = (xor3 a b c n).getD j 0#8) →
    M_thrumlaw04_CrcLinear_l0 (a.map Yn) (b.map Yn) (c.map Yn) true y (List.replicate n 0) (i : Int) (l.map Yn) = some ((xor3 a b c n).map Yn)
  | 0, i, l, h, hl, hinv => by
    rw [M_thrumlaw04_CrcLinear_l0, if_neg (by rw [List.length_replicate]; omega)]
    congr 2
    apply List.ext_getElem?
    intro j
    by_cases hj : j < n
    · have := hinv j (by omega)
      have h2 : j < (xor3 a b c n).length := by rw [xor3_len ha hb hc]; exact hj
      have h3 : j < l.length := by omega
      simp only [List.getD_eq_getElem?_getD, List.getElem?_eq_getElem h2, List.getElem?_eq_getElem h3, Option.getD_some] at this ⊢
      rw [this]
    · rw [List.getElem?_eq_none (by omega), List.getElem?_eq_none (by rw [xor3_len ha hb hc]; omega)]
  | k + 1, i, l, h, hl, hinv => by
    rw [M_thrumlaw04_CrcLinear_l0, if_pos (by rw [List.length_replicate]; omega), if_pos (by rw [List.length_map]; omega), if_pos (by rw [List.length_map]; omega), if_pos (by rw [List.length_map]; omega), if_pos (by rw [List.length_map]; omega), bindS, i64_s (by omega)]
    rw [at_Yn, at_Yn, at_Yn, xor_Yn, xor_Yn, Int.toNat_natCast, set_Yn]
    refine linear_l0 a b c n y ha hb hc hn k (i + 1) _ (by omega) (by rw [List.length_set]; exact hl) fun j hj => ?_
    simp only [List.getD_eq_getElem?_getD, List.getElem?_set]
    by_cases e : i = j
    · subst e
      have h3 : i < l.length := by omega
      have := xor3_at ha hb hc (show i < n by omega)
      simp only [List.getD_eq_getElem?_getD] at this
      rw [this]
      simp [h3]
    · have := hinv j (by omega)
      simp only [List.getD_eq_getElem?_getD] at this
      rw [if_neg e, this]

theorem CrcLinear_true (a b c : List (BitVec 8)) : M_thrumlaw04_CrcLinear (a.map Yn) (b.map Yn) (c.map Yn) = some true := by
  rw [M_thrumlaw04_CrcLinear, live4_eq, bindS, if_neg (by simp), List.length_map, List.length_map, List.length_map]
  obtain ⟨n, hy, ha, hb, hc⟩ : ∃ n : Nat, (if (c.length : Int) < (if (b.length : Int) < (a.length : Int) then (b.length : Int) else (a.length : Int)) then (c.length : Int) else (if (b.length : Int) < (a.length : Int) then (b.length : Int) else (a.length : Int))) = (n : Int) ∧ n ≤ a.length ∧ n ≤ b.length ∧ n ≤ c.length := by
    refine ⟨min c.length (min b.length a.length), ?_, by omega, by omega, by omega⟩
    split <;> split at * <;> omega
  rw [hy, bindS]
  by_cases hl : (n : Int) > 3000
  · rw [if_pos hl]
  have hz : (List.replicate n 0 : List Int) = (List.replicate n 0#8).map Yn := by rw [List.map_replicate]; rfl
  have hloop := linear_l0 a b c n (n : Int) ha hb hc (by omega) n 0 (List.replicate n 0#8) (by omega) (by simp) (fun j hj => by omega)
  rw [show ((0 : Nat) : Int) = 0 from rfl, ← hz] at hloop
  have hcut : ∀ t : List (BitVec 8), n ≤ t.length → cutOk none (some (n : Int)) t.length ∧ cut' (t.map Yn) none (some (n : Int)) = (t.take n).map Yn := by
    intro t ht
    refine ⟨⟨by simp, by simp, ?_⟩, ?_⟩
    · show (n : Int) ≤ (t.length : Int); omega
    · show ((t.map Yn).take (n : Int).toNat).drop 0 = _
      rw [List.drop_zero, ← List.map_take, Int.toNat_natCast]
  rw [if_neg hl, if_pos (by omega), Int.toNat_natCast, bindS, hloop, bindS, if_pos rfl, if_pos (hcut a ha).1, if_pos (hcut b hb).1, if_pos (hcut c hc).1, (hcut a ha).2, (hcut b hb).2, (hcut c hc).2]
  rw [Sum_eq _ (by rw [xor3_len ha hb hc]; omega), bindS, Sum_eq _ (by rw [List.length_take]; omega), bindS, Sum_eq _ (by rw [List.length_take]; omega), bindS, Sum_eq _ (by rw [List.length_take]; omega), bindS, xor_Un, xor_Un]
  rw [xor3, sum_xor3 _ _ _ (by rw [List.length_take, List.length_take]; omega) (by rw [List.length_take, List.length_take]; omega)]
  simp
end Go.Proofs.Ytaghpancpfpnhaa.Abs
