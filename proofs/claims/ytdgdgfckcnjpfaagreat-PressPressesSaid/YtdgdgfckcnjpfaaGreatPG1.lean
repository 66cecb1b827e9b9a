/- Plain facts: what vectors may be sent. Conditions: none. -/
import Derived.Test.YtdgdgfckcnjpfaaGreatPL5
namespace Go.Proofs.YtdgdgfckcnjpfaaGreat.Abs
open Go Go.RowKit Go.IntWalk
set_option linter.unusedVariables false
set_option linter.unusedSimpArgs false
set_option linter.unusedSectionVars false
set_option linter.unnecessarySimpa false
set_option maxRecDepth 100000
set_option linter.unnecessarySimpa false
set_option maxRecDepth 100000

/-- How wide a number is. -/
def wid (n : Nat) : Nat := if n = 0 then 0 else n.log2 + 1

theorem wid_shift {n k : Nat} (h : 2 ^ k ≤ n) : wid n = wid (n / 2 ^ k) + k := by
  have hp : 0 < 2 ^ k := Nat.two_pow_pos k
  have h1 : 1 ≤ n / 2 ^ k := (Nat.le_div_iff_mul_le hp).2 (by omega)
  unfold wid
  rw [if_neg (by omega), if_neg (by omega)]
  have hl : n.log2 = (n / 2 ^ k).log2 + k := by
    rw [Nat.log2_eq_iff (by omega)]
    have a1 : 2 ^ (n / 2 ^ k).log2 ≤ n / 2 ^ k := Nat.log2_self_le (by omega)
    have a2 : n / 2 ^ k < 2 ^ ((n / 2 ^ k).log2 + 1) := Nat.lt_log2_self
    constructor
    · rw [Nat.pow_add]
      exact Nat.le_trans (Nat.mul_le_mul_right _ a1) (Nat.div_mul_le_self n (2 ^ k))
    · rw [show (n / 2 ^ k).log2 + k + 1 = ((n / 2 ^ k).log2 + 1) + k by omega, Nat.pow_add]
      exact (Nat.div_lt_iff_lt_mul hp).1 a2
  omega

def len8 : ByteArray := ByteArray.mk #[0, 1, 2, 2, 3, 3, 3, 3, 4, 4, 4, 4, 4, 4, 4, 4, 5, 5, 5, 5, 5, 5, 5, 5, 5, 5, 5, 5, 5, 5, 5, 5, 6, 6, 6, 6, 6, 6, 6, 6, 6, 6, 6, 6, 6, 6, 6, 6, 6, 6, 6, 6, 6, 6, 6, 6, 6, 6, 6, 6, 6, 6, 6, 6, 7, 7, 7, 7, 7, 7, 7, 7, 7, 7, 7, 7, 7, 7, 7, 7, 7, 7, 7, 7, 7, 7, 7, 7, 7, 7, 7, 7, 7, 7, 7, 7, 7, 7, 7, 7, 7, 7, 7, 7, 7, 7, 7, 7, 7, 7, 7, 7, 7, 7, 7, 7, 7, 7, 7, 7, 7, 7, 7, 7, 7, 7, 7, 7, 8, 8, 8, 8, 8, 8, 8, 8, 8, 8, 8, 8, 8, 8, 8, 8, 8, 8, 8, 8, 8, 8, 8, 8, 8, 8, 8, 8, 8, 8, 8, 8, 8, 8, 8, 8, 8, 8, 8, 8, 8, 8, 8, 8, 8, 8, 8, 8, 8, 8, 8, 8, 8, 8, 8, 8, 8, 8, 8, 8, 8, 8, 8, 8, 8, 8, 8, 8, 8, 8, 8, 8, 8, 8, 8, 8, 8, 8, 8, 8, 8, 8, 8, 8, 8, 8, 8, 8, 8, 8, 8, 8, 8, 8, 8, 8, 8, 8, 8, 8, 8, 8, 8, 8, 8, 8, 8, 8, 8, 8, 8, 8, 8, 8, 8, 8, 8, 8, 8, 8, 8, 8, 8, 8, 8, 8, 8, 8]
theorem len8_at : ∀ i : Fin 256, (len8.data.getD i.val 0).toNat = wid i.val := by decide +kernel
theorem len8_size : len8.size = 256 := by decide +kernel

theorem shrU (m k : Nat) (hk : k ≤ 64) : sShr .u64 (m : Int) (k : Int) = ((m / 2 ^ k : Nat) : Int) := by
  simp only [sShr]
  have h2 : (2 : Int) ^ (min (k : Int).toNat IntKind.u64.bits) = ((2 ^ k : Nat) : Int) := by
    have : IntKind.u64.bits = 64 := by decide
    rw [this, show min (k : Int).toNat 64 = k by omega]; simp
  rw [h2, Int.fdiv_eq_ediv_of_nonneg _ (Int.natCast_nonneg _)]; rfl

theorem Len64_eq {n : Nat} (h : n < 18446744073709551616) : M_math_bits_Len64 (n : Int) = some ((wid n : Nat) : Int) := by
  obtain ⟨k1, m1, e1, h1, w1, b1⟩ : ∃ k1 m1 : Nat, ((if (n : Int) ≥ 4294967296 then some (32, sShr .u64 (n : Int) 32) else some (0, (n : Int))) : Option (Int × Int)) = some ((k1 : Int), (m1 : Int)) ∧ m1 < 4294967296 ∧ wid n = wid m1 + k1 ∧ k1 ≤ 32 := by
    by_cases hn : 4294967296 ≤ n
    · refine ⟨32, n / 2 ^ 32, ?_, by omega, wid_shift (by omega), by omega⟩
      rw [if_pos (by omega)]
      have := shrU n 32 (by omega)
      rw [← this]; rfl
    · exact ⟨0, n, by rw [if_neg (by omega)]; rfl, by omega, rfl, by omega⟩
  obtain ⟨k2, m2, e2, h2, w2, b2⟩ : ∃ k2 m2 : Nat, ((if (m1 : Int) ≥ 65536 then some (IntKind.i64.wrap ((k1 : Int) + 16), sShr .u64 (m1 : Int) 16) else some ((k1 : Int), (m1 : Int))) : Option (Int × Int)) = some ((k2 : Int), (m2 : Int)) ∧ m2 < 65536 ∧ wid n = wid m2 + k2 ∧ k2 ≤ 48 := by
    by_cases hn : 65536 ≤ m1
    · refine ⟨k1 + 16, m1 / 2 ^ 16, ?_, by omega, by rw [w1, wid_shift (k := 16) (n := m1) (by omega)]; omega, by omega⟩
      rw [if_pos (by omega)]
      have := shrU m1 16 (by omega)
      rw [i64_in _ (by omega), ← this]; rfl
    · exact ⟨k1, m1, by rw [if_neg (by omega)], by omega, w1, by omega⟩
  have hw8 : ∀ i : Nat, i < 256 → wid i ≤ 8 := by
    have : ∀ i : Fin 256, wid i.val ≤ 8 := by decide +kernel
    exact fun i hi => this ⟨i, hi⟩
  rw [M_math_bits_Len64, e1, bindS, e2, bindS, show (ByteArray.mk #[0, 1, 2, 2, 3, 3, 3, 3, 4, 4, 4, 4, 4, 4, 4, 4, 5, 5, 5, 5, 5, 5, 5, 5, 5, 5, 5, 5, 5, 5, 5, 5, 6, 6, 6, 6, 6, 6, 6, 6, 6, 6, 6, 6, 6, 6, 6, 6, 6, 6, 6, 6, 6, 6, 6, 6, 6, 6, 6, 6, 6, 6, 6, 6, 7, 7, 7, 7, 7, 7, 7, 7, 7, 7, 7, 7, 7, 7, 7, 7, 7, 7, 7, 7, 7, 7, 7, 7, 7, 7, 7, 7, 7, 7, 7, 7, 7, 7, 7, 7, 7, 7, 7, 7, 7, 7, 7, 7, 7, 7, 7, 7, 7, 7, 7, 7, 7, 7, 7, 7, 7, 7, 7, 7, 7, 7, 7, 7, 8, 8, 8, 8, 8, 8, 8, 8, 8, 8, 8, 8, 8, 8, 8, 8, 8, 8, 8, 8, 8, 8, 8, 8, 8, 8, 8, 8, 8, 8, 8, 8, 8, 8, 8, 8, 8, 8, 8, 8, 8, 8, 8, 8, 8, 8, 8, 8, 8, 8, 8, 8, 8, 8, 8, 8, 8, 8, 8, 8, 8, 8, 8, 8, 8, 8, 8, 8, 8, 8, 8, 8, 8, 8, 8, 8, 8, 8, 8, 8, 8, 8, 8, 8, 8, 8, 8, 8, 8, 8, 8, 8, 8, 8, 8, 8, 8, 8, 8, 8, 8, 8, 8, 8, 8, 8, 8, 8, 8, 8, 8, 8, 8, 8, 8, 8, 8, 8, 8, 8, 8, 8, 8, 8, 8, 8, 8, 8] : ByteArray) = len8 from rfl, len8_size]
  simp only
  by_cases hn : 256 ≤ m2
  · have e3 : IntKind.u8.wrap (sShr .u64 (m2 : Int) 8) = ((m2 / 256 : Nat) : Int) := by
      have := shrU m2 8 (by omega)
      rw [show (8 : Int) = ((8 : Nat) : Int) from rfl, this, u8_in _ (by omega)]
    rw [if_pos (by omega), e3, if_pos (by omega), Int.toNat_natCast]
    have e4 := len8_at ⟨m2 / 256, by omega⟩
    simp only at e4
    rw [e4]
    have := hw8 (m2 / 256) (by omega)
    rw [i64_in (((wid (m2 / 256) : Nat) : Int)) (by omega), i64_in ((k2 : Int) + 8) (by omega), i64_in _ (by omega), w2, wid_shift (k := 8) (n := m2) (by omega)]
    simp only [Nat.reducePow]
    congr 1; omega
  · have e3 : IntKind.u8.wrap (m2 : Int) = (m2 : Int) := u8_in _ (by omega)
    rw [if_neg (by omega), e3, if_pos (by omega), Int.toNat_natCast]
    have e4 := len8_at ⟨m2, by omega⟩
    simp only at e4
    rw [e4]
    have := hw8 m2 (by omega)
    rw [i64_in (((wid m2 : Nat) : Int)) (by omega), i64_in _ (by omega), w2]
    congr 1; omega

theorem Width_eq {n : Int} (h : 0 ≤ n ∧ n ≤ 18446744073709551615) : M_plane_Width n = some ((wid n.toNat : Nat) : Int) := by
  have := Len64_eq (n := n.toNat) (by omega)
  rw [Int.toNat_of_nonneg h.1] at this
  rw [M_plane_Width, this]; rfl

theorem wide_l0 (l : List Int) (hl : l.length ≤ 4611686018427387904) (hu : ∀ n ∈ l, 0 ≤ n ∧ n ≤ 18446744073709551615) (a1 a2 : Int) (a3 a4 : List Int) (a5 a6 : Int) (a7 : List Int) (a8 : List Bool) : ∀ (t : List Int) (k : Nat), l.drop k = t →
    ∃ e, M_slices_IndexFunc_uint64_uint64_frame_bare_1_l0 l a1 a2 a3 a4 a5 a6 a7 a8 (k : Int) = some e ∧ (if t.all (fun n => decide ((wid n.toNat : Int) ≤ a6)) then e = .inr () else ∃ j : Nat, e = .inl (j : Int))
  | [], k, h1 => by rw [M_slices_IndexFunc_uint64_uint64_frame_bare_1_l0, if_neg (drop_end h1)]; exact ⟨_, rfl, by simp⟩
  | x :: t, k, h1 => by
    have g1 := drop_at h1
    have hx : x ∈ l := by have : x ∈ l.drop k := by rw [h1]; simp
                          exact List.mem_of_mem_drop this
    rw [M_slices_IndexFunc_uint64_uint64_frame_bare_1_l0, if_pos g1.1, if_pos (by omega), g1.2.1, M_frame_bare_1_c, Width_eq (hu x hx), bindS, bindS]
    by_cases hw : (wid x.toNat : Int) ≤ a6
    · rw [if_neg (by simp; omega), i64_s (by omega)]
      obtain ⟨e, h2, h3⟩ := wide_l0 l hl hu a1 a2 a3 a4 a5 a6 a7 a8 t (k + 1) g1.2.2
      exact ⟨e, h2, by simpa [hw] using h3⟩
    · rw [if_pos (by simp; omega)]
      exact ⟨_, rfl, by rw [if_neg (by simp [hw])]; exact ⟨k, rfl⟩⟩

theorem wide_eq (l : List Int) (hl : l.length ≤ 4611686018427387904) (hu : ∀ n ∈ l, 0 ≤ n ∧ n ≤ 18446744073709551615) (a1 a2 : Int) (a3 a4 : List Int) (a5 a6 : Int) (a7 : List Int) (a8 : List Bool) :
    M_slices_ContainsFunc_uint64_uint64_frame_bare_1 l a1 a2 a3 a4 a5 a6 a7 a8 = some (!(l.all fun n => decide ((wid n.toNat : Int) ≤ a6))) := by
  obtain ⟨e, h2, h3⟩ := wide_l0 l hl hu a1 a2 a3 a4 a5 a6 a7 a8 l 0 rfl
  rw [M_slices_ContainsFunc_uint64_uint64_frame_bare_1, M_slices_IndexFunc_uint64_uint64_frame_bare_1, show (0 : Int) = ((0 : Nat) : Int) from rfl, h2, bindS]
  split at h3
  · rename_i hc; subst h3; simp only [bindS]; rw [hc]; rfl
  · rename_i hc; obtain ⟨j, rfl⟩ := h3; simp only [bindS]
    rw [Bool.not_eq_true] at hc; rw [hc]; simp

theorem eq_int_int_l0 (a b : List Int) (hl : a.length = b.length) (hb : a.length ≤ 4611686018427387904) : ∀ (t u : List Int) (k : Nat), a.drop k = t → b.drop k = u → M_slices_Equal_int_int_l0 a b (k : Int) = some (if t = u then .inr () else .inl false)
  | [], u, k, h1, h2 => by
    have := List.drop_eq_nil_iff.1 h1
    have h3 : u = [] := by rw [← h2]; exact List.drop_eq_nil_of_le (by omega)
    rw [M_slices_Equal_int_int_l0, if_neg (drop_end h1), h3]; rfl
  | x :: t, [], k, h1, h2 => by
    have := List.drop_eq_nil_iff.1 h2
    have := (drop_at h1).1
    omega
  | x :: t, y :: u, k, h1, h2 => by
    have g1 := drop_at h1
    have g2 := drop_at h2
    rw [M_slices_Equal_int_int_l0, if_pos g1.1, if_pos (by omega), if_pos (by omega), g1.2.1, g2.2.1, i64_s (by omega), eq_int_int_l0 a b hl hb t u (k + 1) g1.2.2 g2.2.2]
    by_cases hxy : x = y
    · subst hxy; simp
    · simp [hxy]
theorem eq_int_int (a b : List Int) (hb : a.length ≤ 4611686018427387904) : M_slices_Equal_int_int a b = some (decide (a = b)) := by
  rw [M_slices_Equal_int_int]
  by_cases hl : a.length = b.length
  · rw [if_neg (by omega), show (0 : Int) = ((0 : Nat) : Int) from rfl, eq_int_int_l0 a b hl hb a b 0 rfl rfl]
    by_cases h : a = b
    · simp [h]
    · simp [h]
  · rw [if_pos (by omega)]
    have : a ≠ b := fun e => hl (by rw [e])
    simp [this]

theorem eq_int64_int64_l0 (a b : List Int) (hl : a.length = b.length) (hb : a.length ≤ 4611686018427387904) : ∀ (t u : List Int) (k : Nat), a.drop k = t → b.drop k = u → M_slices_Equal_int64_int64_l0 a b (k : Int) = some (if t = u then .inr () else .inl false)
  | [], u, k, h1, h2 => by
    have := List.drop_eq_nil_iff.1 h1
    have h3 : u = [] := by rw [← h2]; exact List.drop_eq_nil_of_le (by omega)
    rw [M_slices_Equal_int64_int64_l0, if_neg (drop_end h1), h3]; rfl
  | x :: t, [], k, h1, h2 => by
    have := List.drop_eq_nil_iff.1 h2
    have := (drop_at h1).1
    omega
  | x :: t, y :: u, k, h1, h2 => by
    have g1 := drop_at h1
    have g2 := drop_at h2
    rw [M_slices_Equal_int64_int64_l0, if_pos g1.1, if_pos (by omega), if_pos (by omega), g1.2.1, g2.2.1, i64_s (by omega), eq_int64_int64_l0 a b hl hb t u (k + 1) g1.2.2 g2.2.2]
    by_cases hxy : x = y
    · subst hxy; simp
    · simp [hxy]
theorem eq_int64_int64 (a b : List Int) (hb : a.length ≤ 4611686018427387904) : M_slices_Equal_int64_int64 a b = some (decide (a = b)) := by
  rw [M_slices_Equal_int64_int64]
  by_cases hl : a.length = b.length
  · rw [if_neg (by omega), show (0 : Int) = ((0 : Nat) : Int) from rfl, eq_int64_int64_l0 a b hl hb a b 0 rfl rfl]
    by_cases h : a = b
    · simp [h]
    · simp [h]
  · rw [if_pos (by omega)]
    have : a ≠ b := fun e => hl (by rw [e])
    simp [this]

theorem eq_uint64_uint64_l0 (a b : List Int) (hl : a.length = b.length) (hb : a.length ≤ 4611686018427387904) : ∀ (t u : List Int) (k : Nat), a.drop k = t → b.drop k = u → M_slices_Equal_uint64_uint64_l0 a b (k : Int) = some (if t = u then .inr () else .inl false)
  | [], u, k, h1, h2 => by
    have := List.drop_eq_nil_iff.1 h1
    have h3 : u = [] := by rw [← h2]; exact List.drop_eq_nil_of_le (by omega)
    rw [M_slices_Equal_uint64_uint64_l0, if_neg (drop_end h1), h3]; rfl
  | x :: t, [], k, h1, h2 => by
    have := List.drop_eq_nil_iff.1 h2
    have := (drop_at h1).1
    omega
  | x :: t, y :: u, k, h1, h2 => by
    have g1 := drop_at h1
    have g2 := drop_at h2
    rw [M_slices_Equal_uint64_uint64_l0, if_pos g1.1, if_pos (by omega), if_pos (by omega), g1.2.1, g2.2.1, i64_s (by omega), eq_uint64_uint64_l0 a b hl hb t u (k + 1) g1.2.2 g2.2.2]
    by_cases hxy : x = y
    · subst hxy; simp
    · simp [hxy]
theorem eq_uint64_uint64 (a b : List Int) (hb : a.length ≤ 4611686018427387904) : M_slices_Equal_uint64_uint64 a b = some (decide (a = b)) := by
  rw [M_slices_Equal_uint64_uint64]
  by_cases hl : a.length = b.length
  · rw [if_neg (by omega), show (0 : Int) = ((0 : Nat) : Int) from rfl, eq_uint64_uint64_l0 a b hl hb a b 0 rfl rfl]
    by_cases h : a = b
    · simp [h]
    · simp [h]
  · rw [if_pos (by omega)]
    have : a ≠ b := fun e => hl (by rw [e])
    simp [this]

theorem eq_bool_bool_l0 (a b : List Bool) (hl : a.length = b.length) (hb : a.length ≤ 4611686018427387904) : ∀ (t u : List Bool) (k : Nat), a.drop k = t → b.drop k = u → M_slices_Equal_bool_bool_l0 a b (k : Int) = some (if t = u then .inr () else .inl false)
  | [], u, k, h1, h2 => by
    have := List.drop_eq_nil_iff.1 h1
    have h3 : u = [] := by rw [← h2]; exact List.drop_eq_nil_of_le (by omega)
    rw [M_slices_Equal_bool_bool_l0, if_neg (drop_end h1), h3]; rfl
  | x :: t, [], k, h1, h2 => by
    have := List.drop_eq_nil_iff.1 h2
    have := (drop_at h1).1
    omega
  | x :: t, y :: u, k, h1, h2 => by
    have g1 := drop_at h1
    have g2 := drop_at h2
    rw [M_slices_Equal_bool_bool_l0, if_pos g1.1, if_pos (by omega), if_pos (by omega), g1.2.1, g2.2.1, i64_s (by omega), eq_bool_bool_l0 a b hl hb t u (k + 1) g1.2.2 g2.2.2]
    by_cases hxy : x = y
    · subst hxy; simp
    · simp [hxy]
theorem eq_bool_bool (a b : List Bool) (hb : a.length ≤ 4611686018427387904) : M_slices_Equal_bool_bool a b = some (decide (a = b)) := by
  rw [M_slices_Equal_bool_bool]
  by_cases hl : a.length = b.length
  · rw [if_neg (by omega), show (0 : Int) = ((0 : Nat) : Int) from rfl, eq_bool_bool_l0 a b hl hb a b 0 rfl rfl]
    by_cases h : a = b
    · simp [h]
    · simp [h]
  · rw [if_pos (by omega)]
    have : a ≠ b := fun e => hl (by rw [e])
    simp [this]

def zeroS : T_api_Sent := ⟨0, 0, [], [], 0, 0, [], []⟩

/-- Lists as long as may be, numbers as great. -/
structure FitS (s : T_api_Sent) : Prop where
  L : s.F_L.length ≤ 4611686018427387904
  V : s.F_V.length ≤ 4611686018427387904
  Lev : s.F_Lev.length ≤ 4611686018427387904
  Neg : s.F_Neg.length ≤ 4611686018427387904
  u : ∀ n ∈ s.F_Lev, 0 ≤ n ∧ n ≤ 18446744073709551615

theorem same_eq {s t : T_api_Sent} (h : FitS s) : M_frame_same s t = some (decide (s = t)) := by
  obtain ⟨s1, s2, s3, s4, s5, s6, s7, s8⟩ := s
  obtain ⟨t1, t2, t3, t4, t5, t6, t7, t8⟩ := t
  obtain ⟨h1, h2, h3, h4, _⟩ := h
  simp only at h1 h2 h3 h4
  rw [M_frame_same]
  simp only [eq_int_int _ _ h1, eq_int64_int64 _ _ h2, eq_uint64_uint64 _ _ h3, eq_bool_bool _ _ h4, bindS, andB]
  congr 1
  rw [Bool.eq_iff_iff]
  simp only [Bool.and_eq_true, decide_eq_true_eq, T_api_Sent.mk.injEq, List.cons.injEq, and_true]
  constructor
  · rintro ⟨⟨⟨⟨⟨a, b, c, d⟩, e⟩, f⟩, g⟩, i⟩; exact ⟨a, b, e, f, c, d, g, i⟩
  · rintro ⟨a, b, e, f, c, d, g, i⟩; exact ⟨⟨⟨⟨⟨a, b, c, d⟩, e⟩, f⟩, g⟩, i⟩

def dimOk (s : T_api_Sent) : Bool := decide (s.F_Dim > 0) && decide (s.F_Dim ≤ 4096)
/-- A vector bare of what its scheme names; may that be? -/
def bareP (s : T_api_Sent) : T_api_Sent × Bool :=
  if s.F_Scheme = 0 then (⟨0, 0, s.F_L, [], s.F_Scale, s.F_Wide, s.F_Lev, s.F_Neg⟩, dimOk s && decide ((s.F_V.length : Int) = s.F_Dim))
  else if s.F_Scheme = 1 then (⟨0, 0, [], [], s.F_Scale, s.F_Wide, s.F_Lev, s.F_Neg⟩, dimOk s && decide (checkP s.F_Dim s.F_L = 0) && decide ((s.F_L.length : Int) = (s.F_V.length : Int)))
  else if s.F_Scheme = 2 then (⟨0, 0, s.F_L, s.F_V, 0, 0, [], []⟩, dimOk s && decide (s.F_Wide > 0) && decide (s.F_Wide ≤ 8) && decide ((s.F_Lev.length : Int) = s.F_Dim) && (s.F_Lev.all fun n => decide ((wid n.toNat : Int) ≤ s.F_Wide)) && decide (s.F_Scale ≥ 0) && decide ((s.F_Neg.length : Int) = s.F_Dim))
  else if s.F_Scheme = 3 then (⟨0, 0, s.F_L, s.F_V, 0, s.F_Wide, s.F_Lev, []⟩, dimOk s && decide (s.F_Scale ≥ 0) && decide ((s.F_Neg.length : Int) = s.F_Dim))
  else (⟨0, 0, s.F_L, s.F_V, s.F_Scale, s.F_Wide, s.F_Lev, s.F_Neg⟩, false)

theorem beqI {x y : Int} : (x == y) = decide (x = y) := by by_cases h : x = y <;> simp [h]

theorem bare_eq {s : T_api_Sent} (h : FitS s) : M_frame_bare s = some ((bareP s).1.F_Scheme, (bareP s).1.F_Dim, (bareP s).1.F_L, (bareP s).1.F_V, (bareP s).1.F_Scale, (bareP s).1.F_Wide, (bareP s).1.F_Lev, (bareP s).1.F_Neg, (bareP s).2) := by
  obtain ⟨h1, h2, h3, h4, h5⟩ := h
  rw [M_frame_bare]
  simp only [andB, Check_eq _ _ h1, wide_eq _ h3 h5, bindS, beqI, Bool.not_not, Bool.decide_eq_true]
  unfold bareP dimOk
  repeat' split
  all_goals rfl

def mayP (s : T_api_Sent) : Bool := (bareP s).2 && decide ((bareP s).1 = zeroS)

theorem FitS.bare {s : T_api_Sent} (h : FitS s) : FitS (bareP s).1 := by
  obtain ⟨h1, h2, h3, h4, h5⟩ := h
  unfold bareP
  repeat' split
  all_goals exact ⟨by simp <;> omega, by simp <;> omega, by simp <;> omega, by simp <;> omega, by simpa using h5⟩

theorem may_eq {s : T_api_Sent} (h : FitS s) : M_frame_May s = some (mayP s) := by
  rw [M_frame_May, bare_eq h, bindS]
  simp only
  rw [same_eq h.bare, bindS, andB]
  simp only [Bool.decide_eq_true]; rfl
end Go.Proofs.YtdgdgfckcnjpfaaGreat.Abs
