/- Plain facts: a plan writes neither the head nor the half of what is kept. Conditions: none but that bytes are bytes. -/
import Derived.Test.YtelobmiooldoaaaPS3
namespace Go.Proofs.Ytelobmiooldoaaa.Abs
open Go Go.RowKit Go.IntWalk Crc
set_option linter.unusedVariables false
set_option linter.unusedSimpArgs false
set_option maxRecDepth 100000

theorem getM_ins : ∀ (l : List (Int × Bool)) (n m : Int) (b : Bool), getM (insM l n b) m = if n = m then b else getM l m
  | [], n, m, b => by simp [insM, getM]
  | e :: r, n, m, b => by
    unfold insM
    by_cases h : e.1 = n
    · rw [if_pos h]
      simp only [getM]
      by_cases hm : n = m
      · rw [if_pos hm, if_pos hm]
      · rw [if_neg hm, if_neg hm, if_neg (by rw [h]; exact hm)]
    · rw [if_neg h]
      simp only [getM]
      rw [getM_ins r n m b]
      by_cases he : e.1 = m
      · rw [if_pos he, if_pos he, if_neg (by rw [← he]; exact fun q => h q.symm)]
      · rw [if_neg he, if_neg he]

theorem at_part (half w : Nat) (g : Int) (b : List Int) {k : Nat} (hk : k < chunkN 256 b.length) : at' (putsS half w g b) (k : Int) = ⟨((2 + w * half + k : Nat) : Int), chunkE 256 k b⟩ := by
  rw [at'_nat, List.getD_eq_getElem?_getD]
  unfold putsS
  rw [List.getElem?_append_left (by rw [partsS_len]; exact hk)]
  unfold partsS
  rw [List.getElem?_map, List.getElem?_range hk]; rfl
theorem at_head (half w : Nat) (g : Int) (b : List Int) : at' (putsS half w g b) ((chunkN 256 b.length : Nat) : Int) = ⟨(w : Int), headS g b.length⟩ := by
  rw [at'_nat, List.getD_eq_getElem?_getD]
  unfold putsS
  rw [List.getElem?_append_right (by rw [partsS_len]; omega), partsS_len, Nat.sub_self]
  rfl

theorem Keeps_l0 {cells : List (List Int)} {half w : Nat} {g : Int} {b : List Int} {L : List Int × Int × Int} (h : okS cells half) (hw : ((w : Nat) : Int) = (L.2.1 + 1) % 2) (hL : 0 ≤ L.2.1) (hb : b.length ≤ 256 * half) : ∀ (m k : Nat) (x : List (Int × Bool)), k + m = chunkN 256 b.length →
    (∀ n, getM x n = true → ∃ i, i < k ∧ n = ((2 + w * half + i : Nat) : Int)) → M_thrumlaw20_StoreKeeps_l0 ⟨cells⟩ true (putsS half w g b, 0) L (half : Int) (k : Int) x = some (.inr ())
  | 0, k, x, hk, hx => by
    have hlen := h.len; have hlo := h.lo; have hhi := h.hi
    have hC := chunkN_le hb
    have hN := putsS_len half w g b
    have hw2 : w < 2 := by omega
    have hah := at_head half w g b
    have hk' : k = chunkN 256 b.length := by omega
    rw [← hk'] at hah hN
    have hmet : getM x (w : Int) = false := by
      cases hg : getM x (w : Int) with
      | false => rfl
      | true => obtain ⟨i, _, h2⟩ := hx _ hg; omega
    have ht : Int.tmod L.2.1 2 = L.2.1 % 2 := Int.tmod_eq_emod_of_nonneg hL
    rw [M_thrumlaw20_StoreKeeps_l0]
    simp only
    rw [hN, if_pos (by omega), if_pos ⟨by omega, by omega⟩, hah]
    simp only [hmet, orB, andB, ht]
    rw [i64_in (((k + 1 : Nat) : Int) - 1) (by omega)]
    rw [if_neg (by simp; omega), if_neg (by simp; omega), if_neg (by simp; omega), i64_s (by omega)]
    rw [M_thrumlaw20_StoreKeeps_l0]
    simp only
    rw [hN, if_neg (by omega)]
  | m + 1, k, x, hk, hx => by
    have hlen := h.len; have hlo := h.lo; have hhi := h.hi
    have hC := chunkN_le hb
    have hN := putsS_len half w g b
    have hw2 : w < 2 := by omega
    have hap := at_part half w g b (k := k) (by omega)
    have hwl : w * half ≤ half := by
      have := Nat.mul_le_mul_right half (show w ≤ 1 by omega)
      omega
    have hmet : getM x ((2 + w * half + k : Nat) : Int) = false := by
      cases hg : getM x ((2 + w * half + k : Nat) : Int) with
      | false => rfl
      | true => obtain ⟨i, h1, h2⟩ := hx _ hg; omega
    have ht : Int.tmod L.2.1 2 = L.2.1 % 2 := Int.tmod_eq_emod_of_nonneg hL
    have hdiv : (w * half + k) / half = w := by
      rw [Nat.mul_comm, Nat.mul_add_div (by omega), Nat.div_eq_of_lt (by omega), Nat.add_zero]
    have e13 : IntKind.i64.wrap (Int.tdiv (IntKind.i64.wrap (((2 + w * half + k : Nat) : Int) - 2)) (half : Int)) = (w : Int) := by
      rw [i64_in (((2 + w * half + k : Nat) : Int) - 2) (by omega), show (((2 + w * half + k : Nat) : Int) - 2) = ((w * half + k : Nat) : Int) by omega, Int.tdiv_eq_ediv_of_nonneg (by omega), ← Int.natCast_ediv, hdiv, i64_in (w : Int) (by omega)]
    rw [M_thrumlaw20_StoreKeeps_l0]
    simp only
    rw [hN, if_pos (by omega), if_pos ⟨by omega, by omega⟩, hap]
    simp only [hmet, orB, andB, ht]
    rw [i64_in (((chunkN 256 b.length + 1 : Nat) : Int) - 1) (by omega)]
    have b1 : ((k : Int) == ((chunkN 256 b.length : Nat) : Int)) = false := by simp; omega
    have b2 : decide ((2 : Int) + (w : Int) * (half : Int) + (k : Int) < 2) = false := by
      have : ((w * half : Nat) : Int) = (w : Int) * (half : Int) := by push_cast; rfl
      simp; omega
    rw [if_neg (by simp; exact ⟨by omega, by rw [b1, b2]⟩), if_pos (by simp; omega), if_pos (by omega), e13, bindS, if_neg (by simp; omega), i64_s (by omega)]
    exact Keeps_l0 h hw hL hb m (k + 1) _ (by omega) (fun n hn => by
      rw [getM_ins] at hn
      by_cases hq : ((2 + w * half + k : Nat) : Int) = n
      · exact ⟨k, by omega, hq.symm⟩
      · rw [if_neg hq] at hn
        obtain ⟨i, h1, h2⟩ := hx n hn
        exact ⟨i, by omega, h2⟩)

theorem Few_l0 (cells : List (List Int)) (hl : cells.length ≤ 4611686018427387904) : ∀ (t : List (List Int)) (k : Nat), cells.drop k = t → M_thrumref20_Few_l0 ⟨cells⟩ (k : Int) = some (.inl false) ∨ M_thrumref20_Few_l0 ⟨cells⟩ (k : Int) = some (.inr ())
  | [], k, h => by
    rw [M_thrumref20_Few_l0]
    simp only
    rw [if_neg (drop_end h)]; exact .inr rfl
  | x :: t, k, h => by
    obtain ⟨h1, h2, h3⟩ := drop_at h
    rw [M_thrumref20_Few_l0]
    simp only
    rw [if_pos h1, if_pos ⟨by omega, h1⟩, h2, i64_s (by omega)]
    by_cases hx : (x.length : Int) > 600
    · rw [if_pos hx]; exact .inl rfl
    · rw [if_neg hx]; exact Few_l0 cells hl t (k + 1) h3
theorem Few_some (cells : List (List Int)) (hl : cells.length ≤ 4611686018427387904) : ∃ b, M_thrumref20_Few ⟨cells⟩ = some b ∧ (b = true → cells.length ≤ 140) := by
  rw [M_thrumref20_Few]
  rcases Few_l0 cells hl cells 0 rfl with h | h
  · rw [show ((0 : Nat) : Int) = 0 from rfl] at h
    rw [h]; exact ⟨_, rfl, fun hb => by cases hb⟩
  · rw [show ((0 : Nat) : Int) = 0 from rfl] at h
    rw [h]; exact ⟨_, rfl, fun hb => by simp at hb; omega⟩
theorem loadS_num (cells : List (List Int)) (half : Nat) : 0 ≤ (loadS cells half).2.1 ∧ (loadS cells half).2.1 ≤ 1073741824 := by
  have n0 := keptS_num 0 (cells.getD 0 []) (halfC cells half 0)
  have n1 := keptS_num 1 (cells.getD 1 []) (halfC cells half 1)
  unfold loadS kOf
  split
  · exact n1
  · split
    · exact ⟨by simp, by simp⟩
    · exact n0

theorem StoreKeeps_true (cells : List (List Int)) (b : List Int) (hl0 : cells.length ≤ 4611686018427387904) (hu : ∀ c ∈ cells, U8s c) (hb : U8s b) : M_thrumlaw20_StoreKeeps ⟨cells⟩ b = some true := by
  obtain ⟨f, hf, hf2⟩ := Few_some cells hl0
  rw [M_thrumlaw20_StoreKeeps, live20_eq, bindS, if_neg (by simp), hf, bindS, orB]
  by_cases hc : (decide (f = false) || decide ((b.length : Int) > 20000)) = true
  · rw [if_pos hc]
  rw [if_neg hc]
  have hl : cells.length ≤ 1099511627776 := by
    have := hf2 (by cases f <;> simp_all)
    omega
  by_cases hok : ∃ half, okS cells half
  rotate_left
  · have hno : ∀ half, ¬ okS cells half := fun half h => hok ⟨half, h⟩
    rw [Plan_no hl hu hno b, bindS]
    simp [bindS]
  obtain ⟨half, h⟩ := hok
  have hn := loadS_num cells half
  have hlen := h.len; have hlo := h.lo; have hhi := h.hi
  obtain ⟨w, hw⟩ : ∃ w : Nat, ((w : Nat) : Int) = ((loadS cells half).2.1 + 1) % 2 := ⟨(((loadS cells half).2.1 + 1) % 2).toNat, by omega⟩
  rw [Plan_ok h hb hw, bindS]
  by_cases h1 : b.length > 256 * half
  · rw [if_pos h1]; simp [bindS]
  rw [if_neg h1]
  by_cases h2 : (loadS cells half).2.1 + 1 > 1073741824
  · rw [if_pos h2]; simp [bindS]
  rw [if_neg h2]
  have hN := putsS_len half w ((loadS cells half).2.1 + 1) b
  have e7 : IntKind.i64.wrap (Int.tdiv (IntKind.i64.wrap ((cells.length : Int) - 2)) 2) = (half : Int) := by
    rw [hlen, i64_in (((2 + 2 * half : Nat) : Int) - 2) (by omega), Int.tdiv_eq_ediv_of_nonneg (by omega), i64_in _ (by omega)]; omega
  have hk := Keeps_l0 (g := (loadS cells half).2.1 + 1) (b := b) h hw hn.1 (by omega) (chunkN 256 b.length) 0 [] (by omega) (fun n hg => by simp [getM] at hg)
  rw [show ((0 : Nat) : Int) = 0 from rfl] at hk
  simp only
  rw [if_neg (by simp), Load_ok h, bindS, e7, bindS, hk]
  simp only [bindS, if_true, hN]
  simp
end Go.Proofs.Ytelobmiooldoaaa.Abs
