/- Codes there and back, plainly. Conditions: numbers of 64 bits, bytes. -/
import Derived.Test.YtaghpancpfpnhaaP6d
namespace Go.Proofs.Ytaghpancpfpnhaa.Abs
open Go Go.RowKit Go.IntWalk
set_option linter.unusedVariables false

theorem bOr_u64 {x y : Int} (hx : 0 ≤ x ∧ x ≤ 18446744073709551615) (hy : 0 ≤ y ∧ y ≤ 18446744073709551615) : bOr .u64 x y = ((x.toNat ||| y.toNat : Nat) : Int) := by
  unfold bOr
  have e : IntKind.u64.bits = 64 := rfl
  rw [e, BitVec.toNat_or, BitVec.toNat_ofInt, BitVec.toNat_ofInt]
  have e1 : (x % ((2 ^ 64 : Nat) : Int)).toNat = x.toNat := by omega
  have e2 : (y % ((2 ^ 64 : Nat) : Int)).toNat = y.toNat := by omega
  rw [e1, e2, u64_in _ ?_]
  have := @Nat.or_lt_two_pow x.toNat y.toNat 64 (by omega) (by omega)
  omega

/-- Seven bits more. -/
theorem more7 {a x : Int} {k : Nat} (hk : k ≤ 9) (ha : 0 ≤ a) (ha1 : a < 128 ^ k) (hx : 0 ≤ x) (hx1 : x < 128) (h : x * 128 ^ k < 18446744073709551616) : bOr .u64 a (sShl .u64 x (7 * (k : Int))) = a + x * 128 ^ k := by
  have e7 : (128 : Int) ^ k = 2 ^ (7 * k) := by rw [Int.pow_mul]; rfl
  have hm : min (7 * (k : Int)).toNat IntKind.u64.bits = 7 * k := by
    have : IntKind.u64.bits = 64 := rfl
    rw [this]; omega
  have hp : (0 : Int) < 2 ^ (7 * k) := Int.pow_pos (by decide)
  rw [e7] at ha1 h ⊢
  have hpos : 0 ≤ x * 2 ^ (7 * k) := Int.mul_nonneg hx (by omega)
  have h63 : (2 : Int) ^ (7 * k) ≤ 2 ^ 63 := by
    have : (2 : Nat) ^ (7 * k) ≤ 2 ^ 63 := Nat.pow_le_pow_right (by decide) (by omega)
    exact_mod_cast this
  have es : sShl .u64 x (7 * (k : Int)) = x * 2 ^ (7 * k) := by
    unfold sShl
    rw [hm, u64_in _ (by omega)]
  rw [es, bOr_u64 (by omega) (by omega)]
  have e1 : (x * 2 ^ (7 * k)).toNat = 2 ^ (7 * k) * x.toNat := by
    have : x * 2 ^ (7 * k) = ((2 ^ (7 * k) * x.toNat : Nat) : Int) := by
      push_cast
      rw [Int.toNat_of_nonneg hx, Int.mul_comm]
    rw [this, Int.toNat_natCast]
  have e2 : a.toNat < 2 ^ (7 * k) := by
    have : ((2 ^ (7 * k) : Nat) : Int) = 2 ^ (7 * k) := by push_cast; rfl
    omega
  rw [e1, Nat.or_comm, ← Nat.two_pow_add_eq_or_of_lt e2]
  push_cast
  rw [Int.toNat_of_nonneg hx, Int.toNat_of_nonneg ha, Int.mul_comm x]
  omega

theorem first_byte {n : Int} (h0 : 0 ≤ n) : bOr .u8 (IntKind.u8.wrap n) 128 = n % 128 + 128 := by
  rw [IntKind.wrap_u8 n]
  have h : ∀ i : Fin 256, bOr .u8 ((i.val : Nat) : Int) 128 = ((i.val : Nat) : Int) % 128 + 128 := by decide +kernel
  have := h ⟨(n % 256).toNat, by omega⟩
  simp only [Int.toNat_of_nonneg (show 0 ≤ n % 256 by omega)] at this
  rw [this]; omega

theorem pow_le9 {k : Nat} (hk : k ≤ 9) : (128 : Int) ^ k ≤ 9223372036854775808 := by
  have : ∀ j : Fin 10, (128 : Int) ^ (j.val) ≤ 9223372036854775808 := by decide +kernel
  exact this ⟨k, by omega⟩
theorem pow_le8 {k : Nat} (hk : k ≤ 8) : (128 : Int) ^ k ≤ 72057594037927936 := by
  have : ∀ j : Fin 9, (128 : Int) ^ (j.val) ≤ 72057594037927936 := by decide +kernel
  exact this ⟨k, by omega⟩

/-- What was written is read. -/
theorem getGo_put (at0 : Int) (B : List Int) : ∀ (m : Nat) (n : Int) (k : Nat) (acc : Int), n.toNat ≤ m → k ≤ 9 → 0 ≤ n → 0 ≤ acc → acc < 128 ^ k → n * 128 ^ k < 18446744073709551616 → (1 ≤ n ∨ k = 0) →
    0 ≤ at0 → at0 + k + (lebP n).length ≤ 9223372036854775807 → getGo at0 (lebP n ++ B) k acc = (acc + n * 128 ^ k, at0 + k + (lebP n).length, 0) := by
  intro m
  induction m with
  | zero =>
    intro n k acc hn hk h0 ha ha1 hlt hor hat hl
    have : n = 0 := by omega
    subst this
    have hk0 : k = 0 := by omega
    subst hk0
    rw [lebP_small (by omega)] at hl ⊢
    have e : IntKind.u8.wrap 0 = 0 := rfl
    simp only [e, List.cons_append, List.nil_append, getGo]
    rw [if_neg (by omega), if_pos (by omega)]
    have := more7 (k := 0) (x := 0) (by omega) ha ha1 (by omega) (by omega) (by omega)
    simp only [List.length_cons, List.length_nil] at hl
    rw [show (0 : Int) % 128 = 0 by decide, this, i64_in _ (by omega)]
    simp only [List.length_cons, List.length_nil]
    congr 1
  | succ m ih =>
    intro n k acc hn hk h0 ha ha1 hlt hor hat hl
    have hp9 := pow_le9 hk
    have hpp : (1 : Int) ≤ 128 ^ k := by have : (0 : Int) < 128 ^ k := Int.pow_pos (by decide); omega
    by_cases h : 127 < n
    · have hk8 : k ≤ 8 := by
        rcases Nat.lt_or_ge k 9 with h9 | h9
        · omega
        · have : k = 9 := by omega
          subst this
          omega
      have e128 : (128 : Int) ^ (k + 1) = 128 ^ k * 128 := Int.pow_succ _ _
      have hq : 0 ≤ n % 128 ∧ n % 128 < 128 := by omega
      have hd : n = 128 * (n / 128) + n % 128 := by omega
      have hmul : n * 128 ^ k = n / 128 * (128 ^ k * 128) + n % 128 * 128 ^ k := by
        conv => lhs; rw [hd]
        rw [Int.add_mul, Int.mul_comm 128 (n / 128), Int.mul_assoc, Int.mul_comm 128 (128 ^ k)]
      have hz1 : 0 ≤ n / 128 * (128 ^ k * 128) := Int.mul_nonneg (by omega) (by omega)
      have hz2 : 0 ≤ n % 128 * 128 ^ k := Int.mul_nonneg (by omega) (by omega)
      have hz3 : n % 128 * 128 ^ k ≤ 127 * 128 ^ k := Int.mul_le_mul_of_nonneg_right (by omega) (by omega)
      rw [lebP, if_pos h, shr7] at hl ⊢
      simp only [List.cons_append, List.length_cons] at hl ⊢
      rw [getGo, first_byte h0, if_neg (by omega), if_neg (by omega), show (n % 128 + 128) % 128 = n % 128 by omega, more7 hk ha ha1 hq.1 hq.2 (by omega)]
      rw [ih (n / 128) (k + 1) _ (by omega) (by omega) (by omega) (by omega) (by rw [e128]; omega) (by rw [e128]; omega) (.inl (by omega)) hat (by push_cast; omega)]
      refine Prod.ext ?_ (Prod.ext ?_ rfl)
      · simp only; rw [e128]; omega
      · simp only; push_cast; omega
    · have e : IntKind.u8.wrap n = n := u8_in _ (by omega)
      rw [lebP_small h] at hl ⊢
      simp only [e, List.cons_append, List.nil_append, getGo]
      have hz : ¬ (k = 9 ∧ 1 < n) := by
        rintro ⟨rfl, h1⟩
        omega
      rw [if_neg (by omega), if_pos (by omega), show n % 128 = n by omega, more7 hk ha ha1 h0 (by omega) hlt]
      simp only [List.length_cons, List.length_nil] at hl ⊢
      rw [i64_in _ (by omega)]
      refine Prod.ext rfl (Prod.ext ?_ rfl)
      simp only; omega

theorem getP_put (A B : List Int) (n : Int) (hn : 0 ≤ n ∧ n ≤ 18446744073709551615) (hA : A.length ≤ 4611686018427387904) : getP (A ++ (lebP n ++ B)) A.length = (n, (A.length : Int) + (lebP n).length, 0) := by
  have h1 := lebP_le n hn.2
  rw [getP, if_neg (by omega), Int.toNat_natCast, List.drop_left, getGo_put A.length B n.toNat n 0 0 (Nat.le_refl _) (by omega) hn.1 (by omega) (by simp) (by simp; omega) (.inr rfl) (by omega) (by push_cast; omega)]
  refine Prod.ext ?_ (Prod.ext ?_ rfl)
  · simp
  · simp

/-- What is read was written so. -/
theorem getGo_back (at0 : Int) (h0 : 0 ≤ at0) : ∀ (c : List Int) (k : Nat) (acc v p : Int), U8s c → k ≤ 9 → 0 ≤ acc → acc < 128 ^ k → at0 + k + c.length ≤ 9223372036854775806 → getGo at0 c k acc = (v, p, 0) →
    ∃ n B, c = lebP n ++ B ∧ v = acc + n * 128 ^ k ∧ p = at0 + k + (lebP n).length ∧ 0 ≤ n ∧ n * 128 ^ k < 18446744073709551616 ∧ (1 ≤ n ∨ k = 0)
  | [], k, acc, v, p, hu, hk, ha, ha1, hl, h => by simp [getGo] at h
  | x :: c, k, acc, v, p, hu, hk, ha, ha1, hl, h => by
    have hx := hu x (by simp)
    have hp9 := pow_le9 hk
    have hpp : (1 : Int) ≤ 128 ^ k := by have : (0 : Int) < 128 ^ k := Int.pow_pos (by decide); omega
    simp only [List.length_cons] at hl
    rw [getGo] at h
    split at h
    · simp at h
    · rename_i hne
      have hsm : x < 128 → x * 128 ^ k < 18446744073709551616 := by
        intro hx1
        rcases Nat.lt_or_ge k 9 with h9 | h9
        · have h8 := pow_le8 (k := k) (by omega)
          have : x * 128 ^ k ≤ 127 * 128 ^ k := Int.mul_le_mul_of_nonneg_right (by omega) (by omega)
          omega
        · have : k = 9 := by omega
          subst this
          omega
      split at h
      · rename_i hx1
        simp only [Prod.mk.injEq, and_true] at h
        rw [show x % 128 = x by omega, more7 hk ha ha1 hx.1 hx1 (hsm hx1), i64_in _ (by omega)] at h
        refine ⟨x, c, ?_, h.1.symm, ?_, hx.1, hsm hx1, by omega⟩
        · rw [lebP_small (by omega), u8_in _ (by omega)]; rfl
        · rw [lebP_small (by omega)]
          simp only [List.length_cons, List.length_nil]; omega
      · rename_i hx1
        have hk8 : k ≤ 8 := by omega
        have e128 : (128 : Int) ^ (k + 1) = 128 ^ k * 128 := Int.pow_succ _ _
        have hz2 : 0 ≤ x % 128 * 128 ^ k := Int.mul_nonneg (by omega) (by omega)
        have hz3 : x % 128 * 128 ^ k ≤ 127 * 128 ^ k := Int.mul_le_mul_of_nonneg_right (by omega) (by omega)
        have h8 := pow_le8 (k := k) (by omega)
        rw [more7 hk ha ha1 (by omega) (by omega) (by omega)] at h
        obtain ⟨n, B, g1, g2, g3, g4, g5, g6⟩ := getGo_back at0 h0 c (k + 1) _ v p (fun y hy => hu y (by simp [hy])) (by omega) (by omega) (by rw [e128]; omega) (by push_cast; omega) h
        have hn1 : 1 ≤ n := by omega
        rw [e128] at g2 g5
        have e3 : (128 * n + x % 128) * 128 ^ k = n * (128 ^ k * 128) + x % 128 * 128 ^ k := by
          rw [Int.add_mul, Int.mul_comm 128 n, Int.mul_assoc, Int.mul_comm 128 (128 ^ k)]
        have el : lebP (128 * n + x % 128) = x :: lebP n := by
          rw [lebP, if_pos (by omega), first_byte (by omega), shr7]
          congr 1
          · omega
          · congr 1; omega
        refine ⟨128 * n + x % 128, B, ?_, ?_, ?_, by omega, ?_, .inl (by omega)⟩
        · rw [el, g1]; rfl
        · rw [e3]; omega
        · rw [el, g3]; simp only [List.length_cons]; push_cast; omega
        · rw [e3]
          have : n * (128 ^ k * 128) + x % 128 * 128 ^ k < 18446744073709551616 := by
            have hq : (18446744073709551616 : Int) = 128 ^ k * (18446744073709551616 / 128 ^ k) := by
              have hdiv : ∀ j : Fin 9, (18446744073709551616 : Int) = 128 ^ (j.val) * (18446744073709551616 / 128 ^ (j.val)) := by decide +kernel
              exact hdiv ⟨k, by omega⟩
            have h7 : n * 128 + x % 128 < 18446744073709551616 / 128 ^ k := by
              have hk7 : ∃ q : Int, 18446744073709551616 / 128 ^ k = 128 * q + 0 ∨ 18446744073709551616 / 128 ^ k = 128 * q := ⟨18446744073709551616 / 128 ^ k / 128, by
                have : ∀ j : Fin 9, (18446744073709551616 : Int) / 128 ^ (j.val) = 128 * (18446744073709551616 / 128 ^ (j.val) / 128) := by decide +kernel
                exact .inr (this ⟨k, by omega⟩)⟩
              obtain ⟨q, hq'⟩ := hk7
              have hq2 : 18446744073709551616 / 128 ^ k = 128 * q := by omega
              rw [hq2] at hq ⊢
              have : n < q := by
                by_cases h : n < q
                · exact h
                · exfalso
                  have h2 : q * (128 ^ k * 128) ≤ n * (128 ^ k * 128) := Int.mul_le_mul_of_nonneg_right (by omega) (by omega)
                  have h3 : q * (128 ^ k * 128) = 128 ^ k * (128 * q) := by rw [Int.mul_comm q, Int.mul_assoc]
                  omega
              omega
            have h9 : (n * 128 + x % 128) * 128 ^ k < 18446744073709551616 / 128 ^ k * 128 ^ k := Int.mul_lt_mul_of_pos_right h7 (by omega)
            have h10 : (n * 128 + x % 128) * 128 ^ k = n * (128 ^ k * 128) + x % 128 * 128 ^ k := by rw [Int.add_mul, Int.mul_assoc, Int.mul_comm 128 (128 ^ k)]
            have h11 : 18446744073709551616 / 128 ^ k * 128 ^ k = (18446744073709551616 : Int) := by rw [Int.mul_comm]; exact hq.symm
            omega
          exact this

theorem getP_back (b : List Int) (at0 v p : Int) (hb : b.length ≤ 4611686018427387904) (hu : U8s b) (h : getP b at0 = (v, p, 0)) : 0 ≤ at0 ∧ at0 ≤ b.length ∧ 0 ≤ v ∧ v ≤ 18446744073709551615 ∧ p = at0 + (lebP v).length ∧ b.drop at0.toNat = lebP v ++ b.drop p.toNat := by
  unfold getP at h
  split at h
  · simp at h
  · rename_i h0
    have hin : at0 < b.length := by
      by_cases h1 : at0 < b.length
      · exact h1
      · rw [List.drop_eq_nil_of_le (by omega)] at h; simp [getGo] at h
    obtain ⟨n, B, g1, g2, g3, g4, g5, _⟩ := getGo_back at0 (by omega) _ 0 0 v p (fun y hy => hu y (List.mem_of_mem_drop hy)) (by omega) (by omega) (by simp) (by simp only [List.length_drop]; omega) h
    simp only [Int.pow_zero, Int.mul_one, Int.zero_add] at g2 g5
    subst g2
    refine ⟨by omega, by omega, g4, by omega, by rw [g3]; simp, ?_⟩
    have e : p.toNat = at0.toNat + (lebP v).length := by rw [g3]; push_cast; omega
    rw [e, ← List.drop_drop, g1, List.drop_left]
end Go.Proofs.Ytaghpancpfpnhaa.Abs
