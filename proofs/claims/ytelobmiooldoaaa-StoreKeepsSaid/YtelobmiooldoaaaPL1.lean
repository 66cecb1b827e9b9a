/- Plain facts on codes of numbers. Conditions: none. -/
import Derived.Test.YtelobmiooldoaaaPB
import Derived.Test.YtelobmiooldoaaaSM
namespace Go.Proofs.Ytelobmiooldoaaa.Abs
open Go Go.RowKit Go.IntWalk
set_option linter.unusedVariables false
set_option maxRecDepth 100000
/-- A number's code: seven bits a byte. -/
def lebP (n : Int) : List Int := if 127 < n then bOr .u8 (IntKind.u8.wrap n) 128 :: lebP (sShr .u64 n 7) else [IntKind.u8.wrap n]
  termination_by n.toNat
  decreasing_by
  simp only [sShr]
  have : min (7 : Int).toNat IntKind.u64.bits = 7 := by decide
  rw [this, Int.fdiv_eq_ediv_of_nonneg _ (by decide)]
  omega

theorem shr7 (n : Int) : sShr .u64 n 7 = n / 128 := by
  simp only [sShr]
  have : min (7 : Int).toNat IntKind.u64.bits = 7 := by decide
  rw [this, Int.fdiv_eq_ediv_of_nonneg _ (by decide)]; rfl

theorem lebP_le (n : Int) (h : n ≤ 18446744073709551615) : (lebP n).length ≤ 10 := by
  suffices ∀ (k : Nat) (n : Int), n < 128 ^ (k + 1) → (lebP n).length ≤ k + 1 from this 9 n (by omega)
  intro k
  induction k with
  | zero => intro n h; rw [lebP, if_neg (by omega)]; simp
  | succ k ih =>
    intro n h
    rw [lebP]
    split
    · have := ih (sShr .u64 n 7) (by
        rw [shr7]
        have e : (128 : Int) ^ (k + 1 + 1) = 128 * 128 ^ (k + 1) := by rw [Int.pow_succ, Int.mul_comm]
        rw [e] at h
        omega)
      simpa using this
    · simp

theorem leb_put_l0 (b : List Int) (n : Int) (hb : b.length + (lebP n).length ≤ 140737488355328) : ∃ c m, M_leb_put_l0 b n = some (c, m) ∧ c ++ [IntKind.u8.wrap m] = b ++ lebP n := by
  suffices ∀ (k : Nat) (b : List Int) (n : Int), n.toNat ≤ k → b.length + (lebP n).length ≤ 140737488355328 → ∃ c m, M_leb_put_l0 b n = some (c, m) ∧ c ++ [IntKind.u8.wrap m] = b ++ lebP n from this _ b n (Nat.le_refl _) hb
  clear hb n b
  intro k
  induction k with
  | zero =>
    intro b n hn hb
    rw [M_leb_put_l0, if_neg (by omega), lebP, if_neg (by omega)]
    exact ⟨b, n, rfl, rfl⟩
  | succ k ih =>
    intro b n hn hb
    rw [M_leb_put_l0]
    by_cases h : 127 < n
    · rw [lebP, if_pos h] at hb
      simp only [List.length_cons] at hb
      rw [if_pos h, if_pos (room1 (by simp; omega))]
      obtain ⟨c, m, h1, h2⟩ := ih (b ++ [bOr .u8 (IntKind.u8.wrap n) 128]) (sShr .u64 n 7) (by rw [shr7]; omega) (by simp; omega)
      refine ⟨c, m, h1, ?_⟩
      rw [h2]
      conv => rhs; rw [lebP, if_pos h]
      simp
    · rw [if_neg h, lebP, if_neg h]
      exact ⟨b, n, rfl, rfl⟩

theorem leb_put_eq (b : List Int) (n : Int) (hb : b.length + (lebP n).length ≤ 140737488355328) : M_leb_put b n = some (b ++ lebP n) := by
  obtain ⟨c, m, h1, h2⟩ := leb_put_l0 b n hb
  have := congrArg List.length h2
  simp only [List.length_append] at this
  rw [M_leb_put, h1, bindS, if_pos (room1 (by simp only [List.length_append] at this ⊢; omega)), h2]

theorem clone_eq (b : List Int) (hb : b.length ≤ 140737488355328) : M_slices_Clone_byte_byte b = some b := by
  rw [M_slices_Clone_byte_byte]
  simp only [List.nil_append]
  rw [if_pos (room1 hb)]

theorem leb_Put_l0 (ns : List Int) (hn : ns.length ≤ 4611686018427387904) : ∀ (t : List Int) (k : Nat) (b : List Int), ns.drop k = t → b.length + (t.flatMap lebP).length ≤ 140737488355328 → M_leb_Put_l0 ns (k : Int) b = some (b ++ t.flatMap lebP)
  | [], k, b, h, hb => by
    rw [M_leb_Put_l0, if_neg (drop_end h)]; simp
  | x :: t, k, b, h, hb => by
    have h1 := drop_at h
    simp only [List.flatMap_cons, List.length_append] at hb
    rw [M_leb_Put_l0, if_pos h1.1, if_pos (by omega), h1.2.1, leb_put_eq b x (by omega), bindS, i64_s (by omega), leb_Put_l0 ns hn t (k + 1) _ h1.2.2 (by simp only [List.length_append]; omega)]
    simp

theorem leb_Put_eq (b ns : List Int) (hn : ns.length ≤ 4611686018427387904) (hb : b.length + (ns.flatMap lebP).length ≤ 140737488355328) : M_leb_Put b ns = some (b ++ ns.flatMap lebP) := by
  have h1 := leb_Put_l0 ns hn ns 0 b rfl hb
  rw [show ((0 : Nat) : Int) = 0 from rfl] at h1
  rw [M_leb_Put, clone_eq b (by omega), bindS, h1, bindS]

theorem flat_lebP_le : ∀ (l : List Int), (∀ n ∈ l, n ≤ 18446744073709551615) → (l.flatMap lebP).length ≤ 10 * l.length
  | [], _ => by simp
  | n :: l, h => by
    have h1 := lebP_le n (h n (by simp))
    have h2 := flat_lebP_le l fun m hm => h m (by simp [hm])
    simp only [List.flatMap_cons, List.length_append, List.length_cons]
    omega

def U8s (b : List Int) : Prop := ∀ x ∈ b, 0 ≤ x ∧ x ≤ 255

theorem and127 {x : Int} (h0 : 0 ≤ x) (h1 : x ≤ 255) : bAnd .u8 x 127 = x % 128 := by
  have h : ∀ i : Fin 256, bAnd .u8 ((i.val : Nat) : Int) 127 = ((i.val : Nat) : Int) % 128 := by decide +kernel
  have := h ⟨x.toNat, by omega⟩
  simpa [Int.toNat_of_nonneg h0] using this

/-- A code read on, from a place and what was read. -/
def getGo (at0 : Int) : List Int → Nat → Int → Int × Int × Int
  | [], _, _ => (0, 0, 5)
  | x :: c, k, n =>
    if (k = 9 ∧ 1 < x) ∨ (x = 0 ∧ 0 < k) then (0, 0, 6)
    else if x < 128 then (bOr .u64 n (sShl .u64 (x % 128) (7 * (k : Int))), IntKind.i64.wrap (at0 + k) + 1, 0)
    else getGo at0 c (k + 1) (bOr .u64 n (sShl .u64 (x % 128) (7 * (k : Int))))

/-- A code read. -/
def getP (b : List Int) (at0 : Int) : Int × Int × Int := if at0 < 0 then (0, 0, 1) else getGo at0 (b.drop at0.toNat) 0 0

theorem leb_Get_l0 (at0 : Int) (y : List Int) (h0 : 0 ≤ at0) (ha : at0 + y.length ≤ 9223372036854775806 ∨ y = []) (hu : U8s y) : ∀ (c : List Int) (k : Nat) (n : Int), k ≤ 9 → y.drop k = c →
    M_leb_Get_l0 at0 y (k : Int) n = some (if getGo at0 c k n = (0, 0, 5) ∧ (∀ x ∈ c, 128 ≤ x) then .inr () else .inl (getGo at0 c k n)) := by
  intro c
  induction c with
  | nil =>
    intro k n hk h
    rw [M_leb_Get_l0, if_neg (drop_end h)]; simp [getGo]
  | cons x c ih =>
    intro k n hk h
    have h1 := drop_at h
    have hx : 0 ≤ x ∧ x ≤ 255 := hu x (List.mem_of_mem_drop (by rw [h]; simp))
    have ha' : at0 + y.length ≤ 9223372036854775806 := by
      rcases ha with ha | rfl
      · exact ha
      · simp at h
    rw [M_leb_Get_l0, if_pos h1.1, if_pos (by omega), h1.2.1]
    simp only [orB, andB]
    have e1 : IntKind.i64.wrap (7 * (k : Int)) = 7 * k := i64_in _ (by omega)
    have e2 : IntKind.i64.wrap (at0 + (k : Int)) = at0 + k := i64_in _ (by omega)
    have e3 : IntKind.u64.wrap (bAnd .u8 x 127) = x % 128 := by rw [and127 hx.1 hx.2, u64_in _ (by omega)]
    by_cases hb : (k = 9 ∧ 1 < x) ∨ (x = 0 ∧ 0 < k)
    · rw [if_pos (by simp; omega), getGo, if_pos hb]
      simp
    · rw [if_neg (by simp; omega), e1, if_pos (by omega), e3, bindS, getGo, if_neg hb]
      by_cases hx1 : x < 128
      · rw [if_pos hx1, if_pos hx1, e2]
        rw [i64_in (at0 + k + 1) (by omega), if_neg (by simp)]
      · rw [if_neg hx1, if_neg hx1, i64_s (by omega), ih (k + 1) _ (by omega) h1.2.2]
        simp only [List.mem_cons, forall_eq_or_imp, show 128 ≤ x by omega, true_and]

theorem cut_none {α : Type} (l : List α) (a : Int) (h : a ≤ l.length) : cut' l (some a) none = l.drop a.toNat := by
  simp [cut']

theorem leb_Get_eq (b : List Int) (at0 : Int) (hb : b.length ≤ 4611686018427387904) (hu : U8s b) (hat : at0 ≤ 9223372036854775807) : M_leb_Get b at0 = some (getP b at0) := by
  rw [M_leb_Get, getP]
  by_cases h0 : at0 < 0
  · rw [if_pos h0, if_pos h0]
  rw [if_neg h0, if_neg h0]
  have hmin : (if (b.length : Int) < at0 then (b.length : Int) else at0).toNat = min at0.toNat b.length := by
    split <;> omega
  have hd : cut' b (some (if (b.length : Int) < at0 then (b.length : Int) else at0)) none = b.drop at0.toNat := by
    rw [cut_none _ _ (by split <;> omega), hmin]
    rcases Nat.le_total at0.toNat b.length with h | h
    · rw [Nat.min_eq_left h]
    · rw [Nat.min_eq_right h, List.drop_eq_nil_of_le (Nat.le_refl _), List.drop_eq_nil_of_le h]
  rw [if_pos (by simp only [cutOk, Option.getD_some, Option.getD_none]; split <;> omega), hd, bindS]
  have hl := leb_Get_l0 at0 (b.drop at0.toNat) (by omega) (by
    rcases Nat.lt_or_ge at0.toNat b.length with h | h
    · left; simp only [List.length_drop]; omega
    · right; exact List.drop_eq_nil_of_le h) (fun x hx => hu x (List.mem_of_mem_drop hx)) (b.drop at0.toNat) 0 0 (by omega) rfl
  rw [show ((0 : Nat) : Int) = 0 from rfl] at hl
  rw [hl]
  by_cases hc : getGo at0 (b.drop at0.toNat) 0 0 = (0, 0, 5) ∧ ∀ x ∈ b.drop at0.toNat, 128 ≤ x
  · rw [if_pos hc, hc.1]; rfl
  · rw [if_neg hc]; rfl

theorem getGo_err (at0 : Int) : ∀ (c : List Int) (k : Nat) (n : Int), (getGo at0 c k n).2.2 = 0 ∨ getGo at0 c k n = (0, 0, 5) ∨ getGo at0 c k n = (0, 0, 6)
  | [], k, n => by simp [getGo]
  | x :: c, k, n => by
    rw [getGo]
    split
    · simp
    · split
      · simp
      · exact getGo_err at0 c _ _

theorem getGo_at (at0 : Int) (h0 : 0 ≤ at0) (B : Int) (hB : B ≤ 9223372036854775806) (hB0 : 0 ≤ B) : ∀ (c : List Int) (k : Nat) (n : Int), at0 + k + c.length ≤ B ∨ c = [] → 0 ≤ (getGo at0 c k n).2.1 ∧ (getGo at0 c k n).2.1 ≤ B
  | [], k, n, _ => by simp [getGo, hB0]
  | x :: c, k, n, h => by
    simp only [List.length_cons, reduceCtorEq, or_false] at h
    rw [getGo]
    split
    · simp [hB0]
    · split
      · simp only
        rw [i64_in _ (by omega)]; omega
      · exact getGo_at at0 h0 B hB hB0 c (k + 1) _ (.inl (by omega))

theorem getP_at (b : List Int) (at0 : Int) (hb : b.length ≤ 4611686018427387904) : 0 ≤ (getP b at0).2.1 ∧ (getP b at0).2.1 ≤ b.length := by
  unfold getP
  split
  · simp
  · rename_i h
    refine getGo_at at0 (by omega) b.length (by omega) (by omega) _ 0 0 ?_
    rcases Nat.lt_or_ge at0.toNat b.length with h1 | h1
    · left; simp only [List.length_drop]; omega
    · right; exact List.drop_eq_nil_of_le h1

theorem getGo_u64 (at0 : Int) : ∀ (c : List Int) (k : Nat) (n : Int), 0 ≤ (getGo at0 c k n).1 ∧ (getGo at0 c k n).1 ≤ 18446744073709551615
  | [], k, n => by simp [getGo]
  | x :: c, k, n => by
    rw [getGo]
    split
    · simp
    · split
      · exact u64_ge _
      · exact getGo_u64 at0 c (k + 1) _
theorem getP_u64 (b : List Int) (at0 : Int) : 0 ≤ (getP b at0).1 ∧ (getP b at0).1 ≤ 18446744073709551615 := by
  unfold getP
  split
  · simp
  · exact getGo_u64 _ _ _ _

theorem strB_list (l : List Int) : (strB l).toList = l.map fun x => UInt8.ofNat x.toNat := by
  rw [ByteArray.toList_eq, strB, strOf]
  simp only [List.map_map]
  rfl

theorem u8_map_inj : ∀ {a b : List Int}, U8s a → U8s b → a.map (fun x => UInt8.ofNat x.toNat) = b.map (fun x => UInt8.ofNat x.toNat) → a = b
  | [], [], _, _, _ => rfl
  | [], y :: b, _, _, h => by simp at h
  | x :: a, [], _, _, h => by simp at h
  | x :: a, y :: b, ha, hb, h => by
    simp only [List.map_cons, List.cons.injEq] at h
    have hx := ha x (by simp)
    have hy := hb y (by simp)
    have h3 := congrArg UInt8.toNat h.1
    simp only [UInt8.toNat_ofNat'] at h3
    rw [u8_map_inj (fun z hz => ha z (by simp [hz])) (fun z hz => hb z (by simp [hz])) h.2]
    congr 1
    omega

theorem Same_eq (a b : List Int) (ha : U8s a) (hb : U8s b) : M_thrumref03_Same a b = some (decide (a = b)) := by
  rw [M_thrumref03_Same]
  congr 1
  by_cases h : a = b
  · subst h; simp
  · rw [decide_eq_false h]
    rw [beq_eq_false_iff_ne]
    rw [strB_list, strB_list]
    exact fun e => h (u8_map_inj ha hb e)
theorem lebP_small {n : Int} (h : ¬ 127 < n) : lebP n = [IntKind.u8.wrap n] := by rw [lebP, if_neg h]

theorem lebP_u8 : ∀ (k : Nat) (n : Int), n.toNat ≤ k → U8s (lebP n) := by
  intro k
  induction k with
  | zero =>
    intro n h x hx
    rw [lebP_small (by omega), List.mem_singleton] at hx; subst hx
    exact u8_ge _
  | succ k ih =>
    intro n h x hx
    rw [lebP] at hx
    split at hx
    · rcases List.mem_cons.1 hx with rfl | hx
      · exact u8_ge _
      · exact ih _ (by rw [shr7]; omega) x hx
    · simp only [List.mem_singleton] at hx; subst hx
      exact u8_ge _

theorem bOr_u64 {x y : Int} (hx : 0 ≤ x ∧ x ≤ 18446744073709551615) (hy : 0 ≤ y ∧ y ≤ 18446744073709551615) : bOr .u64 x y = ((x.toNat ||| y.toNat : Nat) : Int) := by
  unfold bOr
  have e : IntKind.u64.bits = 64 := rfl
  rw [e, BitVec.toNat_or, BitVec.toNat_ofInt, BitVec.toNat_ofInt]
  have e1 : (x % ((2 ^ 64 : Nat) : Int)).toNat = x.toNat := by omega
  have e2 : (y % ((2 ^ 64 : Nat) : Int)).toNat = y.toNat := by omega
  rw [e1, e2, u64_in _ ?_]
  have := @Nat.or_lt_two_pow x.toNat y.toNat 64 (by omega) (by omega)
  omega

/-- Seven bits more. -/
theorem more7 {a x : Int} {k : Nat} (hk : k ≤ 9) (ha : 0 ≤ a) (ha1 : a < 128 ^ k) (hx : 0 ≤ x) (hx1 : x < 128) (h : x * 128 ^ k < 18446744073709551616) : bOr .u64 a (sShl .u64 x (7 * (k : Int))) = a + x * 128 ^ k := by
  have e7 : (128 : Int) ^ k = 2 ^ (7 * k) := by rw [Int.pow_mul]; rfl
  have hm : min (7 * (k : Int)).toNat IntKind.u64.bits = 7 * k := by
    have : IntKind.u64.bits = 64 := rfl
    rw [this]; omega
  have hp : (0 : Int) < 2 ^ (7 * k) := Int.pow_pos (by decide)
  rw [e7] at ha1 h ⊢
  have hpos : 0 ≤ x * 2 ^ (7 * k) := Int.mul_nonneg hx (by omega)
  have h63 : (2 : Int) ^ (7 * k) ≤ 2 ^ 63 := by
    have : (2 : Nat) ^ (7 * k) ≤ 2 ^ 63 := Nat.pow_le_pow_right (by decide) (by omega)
    exact_mod_cast this
  have es : sShl .u64 x (7 * (k : Int)) = x * 2 ^ (7 * k) := by
    unfold sShl
    rw [hm, u64_in _ (by omega)]
  rw [es, bOr_u64 (by omega) (by omega)]
  have e1 : (x * 2 ^ (7 * k)).toNat = 2 ^ (7 * k) * x.toNat := by
    have : x * 2 ^ (7 * k) = ((2 ^ (7 * k) * x.toNat : Nat) : Int) := by
      push_cast
      rw [Int.toNat_of_nonneg hx, Int.mul_comm]
    rw [this, Int.toNat_natCast]
  have e2 : a.toNat < 2 ^ (7 * k) := by
    have : ((2 ^ (7 * k) : Nat) : Int) = 2 ^ (7 * k) := by push_cast; rfl
    omega
  rw [e1, Nat.or_comm, ← Nat.two_pow_add_eq_or_of_lt e2]
  push_cast
  rw [Int.toNat_of_nonneg hx, Int.toNat_of_nonneg ha, Int.mul_comm x]
  omega

theorem first_byte {n : Int} (h0 : 0 ≤ n) : bOr .u8 (IntKind.u8.wrap n) 128 = n % 128 + 128 := by
  rw [IntKind.wrap_u8 n]
  have h : ∀ i : Fin 256, bOr .u8 ((i.val : Nat) : Int) 128 = ((i.val : Nat) : Int) % 128 + 128 := by decide +kernel
  have := h ⟨(n % 256).toNat, by omega⟩
  simp only [Int.toNat_of_nonneg (show 0 ≤ n % 256 by omega)] at this
  rw [this]; omega

theorem pow_le9 {k : Nat} (hk : k ≤ 9) : (128 : Int) ^ k ≤ 9223372036854775808 := by
  have : ∀ j : Fin 10, (128 : Int) ^ (j.val) ≤ 9223372036854775808 := by decide +kernel
  exact this ⟨k, by omega⟩
theorem pow_le8 {k : Nat} (hk : k ≤ 8) : (128 : Int) ^ k ≤ 72057594037927936 := by
  have : ∀ j : Fin 9, (128 : Int) ^ (j.val) ≤ 72057594037927936 := by decide +kernel
  exact this ⟨k, by omega⟩

/-- What was written is read. -/
theorem getGo_put (at0 : Int) (B : List Int) : ∀ (m : Nat) (n : Int) (k : Nat) (acc : Int), n.toNat ≤ m → k ≤ 9 → 0 ≤ n → 0 ≤ acc → acc < 128 ^ k → n * 128 ^ k < 18446744073709551616 → (1 ≤ n ∨ k = 0) →
    0 ≤ at0 → at0 + k + (lebP n).length ≤ 9223372036854775807 → getGo at0 (lebP n ++ B) k acc = (acc + n * 128 ^ k, at0 + k + (lebP n).length, 0) := by
  intro m
  induction m with
  | zero =>
    intro n k acc hn hk h0 ha ha1 hlt hor hat hl
    have : n = 0 := by omega
    subst this
    have hk0 : k = 0 := by omega
    subst hk0
    rw [lebP_small (by omega)] at hl ⊢
    have e : IntKind.u8.wrap 0 = 0 := rfl
    simp only [e, List.cons_append, List.nil_append, getGo]
    rw [if_neg (by omega), if_pos (by omega)]
    have := more7 (k := 0) (x := 0) (by omega) ha ha1 (by omega) (by omega) (by omega)
    simp only [List.length_cons, List.length_nil] at hl
    rw [show (0 : Int) % 128 = 0 by decide, this, i64_in _ (by omega)]
    simp only [List.length_cons, List.length_nil]
    congr 1
  | succ m ih =>
    intro n k acc hn hk h0 ha ha1 hlt hor hat hl
    have hp9 := pow_le9 hk
    have hpp : (1 : Int) ≤ 128 ^ k := by have : (0 : Int) < 128 ^ k := Int.pow_pos (by decide); omega
    by_cases h : 127 < n
    · have hk8 : k ≤ 8 := by
        rcases Nat.lt_or_ge k 9 with h9 | h9
        · omega
        · have : k = 9 := by omega
          subst this
          omega
      have e128 : (128 : Int) ^ (k + 1) = 128 ^ k * 128 := Int.pow_succ _ _
      have hq : 0 ≤ n % 128 ∧ n % 128 < 128 := by omega
      have hd : n = 128 * (n / 128) + n % 128 := by omega
      have hmul : n * 128 ^ k = n / 128 * (128 ^ k * 128) + n % 128 * 128 ^ k := by
        conv => lhs; rw [hd]
        rw [Int.add_mul, Int.mul_comm 128 (n / 128), Int.mul_assoc, Int.mul_comm 128 (128 ^ k)]
      have hz1 : 0 ≤ n / 128 * (128 ^ k * 128) := Int.mul_nonneg (by omega) (by omega)
      have hz2 : 0 ≤ n % 128 * 128 ^ k := Int.mul_nonneg (by omega) (by omega)
      have hz3 : n % 128 * 128 ^ k ≤ 127 * 128 ^ k := Int.mul_le_mul_of_nonneg_right (by omega) (by omega)
      rw [lebP, if_pos h, shr7] at hl ⊢
      simp only [List.cons_append, List.length_cons] at hl ⊢
      rw [getGo, first_byte h0, if_neg (by omega), if_neg (by omega), show (n % 128 + 128) % 128 = n % 128 by omega, more7 hk ha ha1 hq.1 hq.2 (by omega)]
      rw [ih (n / 128) (k + 1) _ (by omega) (by omega) (by omega) (by omega) (by rw [e128]; omega) (by rw [e128]; omega) (.inl (by omega)) hat (by push_cast; omega)]
      refine Prod.ext ?_ (Prod.ext ?_ rfl)
      · simp only; rw [e128]; omega
      · simp only; push_cast; omega
    · have e : IntKind.u8.wrap n = n := u8_in _ (by omega)
      rw [lebP_small h] at hl ⊢
      simp only [e, List.cons_append, List.nil_append, getGo]
      have hz : ¬ (k = 9 ∧ 1 < n) := by
        rintro ⟨rfl, h1⟩
        omega
      rw [if_neg (by omega), if_pos (by omega), show n % 128 = n by omega, more7 hk ha ha1 h0 (by omega) hlt]
      simp only [List.length_cons, List.length_nil] at hl ⊢
      rw [i64_in _ (by omega)]
      refine Prod.ext rfl (Prod.ext ?_ rfl)
      simp only; omega

theorem getP_put (A B : List Int) (n : Int) (hn : 0 ≤ n ∧ n ≤ 18446744073709551615) (hA : A.length ≤ 4611686018427387904) : getP (A ++ (lebP n ++ B)) A.length = (n, (A.length : Int) + (lebP n).length, 0) := by
  have h1 := lebP_le n hn.2
  rw [getP, if_neg (by omega), Int.toNat_natCast, List.drop_left, getGo_put A.length B n.toNat n 0 0 (Nat.le_refl _) (by omega) hn.1 (by omega) (by simp) (by simp; omega) (.inr rfl) (by omega) (by push_cast; omega)]
  refine Prod.ext ?_ (Prod.ext ?_ rfl)
  · simp
  · simp

/-- What is read was written so. -/
theorem getGo_back (at0 : Int) (h0 : 0 ≤ at0) : ∀ (c : List Int) (k : Nat) (acc v p : Int), U8s c → k ≤ 9 → 0 ≤ acc → acc < 128 ^ k → at0 + k + c.length ≤ 9223372036854775806 → getGo at0 c k acc = (v, p, 0) →
    ∃ n B, c = lebP n ++ B ∧ v = acc + n * 128 ^ k ∧ p = at0 + k + (lebP n).length ∧ 0 ≤ n ∧ n * 128 ^ k < 18446744073709551616 ∧ (1 ≤ n ∨ k = 0)
  | [], k, acc, v, p, hu, hk, ha, ha1, hl, h => by simp [getGo] at h
  | x :: c, k, acc, v, p, hu, hk, ha, ha1, hl, h => by
    have hx := hu x (by simp)
    have hp9 := pow_le9 hk
    have hpp : (1 : Int) ≤ 128 ^ k := by have : (0 : Int) < 128 ^ k := Int.pow_pos (by decide); omega
    simp only [List.length_cons] at hl
    rw [getGo] at h
    split at h
    · simp at h
    · rename_i hne
      have hsm : x < 128 → x * 128 ^ k < 18446744073709551616 := by
        intro hx1
        rcases Nat.lt_or_ge k 9 with h9 | h9
        · have h8 := pow_le8 (k := k) (by omega)
          have : x * 128 ^ k ≤ 127 * 128 ^ k := Int.mul_le_mul_of_nonneg_right (by omega) (by omega)
          omega
        · have : k = 9 := by omega
          subst this
          omega
      split at h
      · rename_i hx1
        simp only [Prod.mk.injEq, and_true] at h
        rw [show x % 128 = x by omega, more7 hk ha ha1 hx.1 hx1 (hsm hx1), i64_in _ (by omega)] at h
        refine ⟨x, c, ?_, h.1.symm, ?_, hx.1, hsm hx1, by omega⟩
        · rw [lebP_small (by omega), u8_in _ (by omega)]; rfl
        · rw [lebP_small (by omega)]
          simp only [List.length_cons, List.length_nil]; omega
      · rename_i hx1
        have hk8 : k ≤ 8 := by omega
        have e128 : (128 : Int) ^ (k + 1) = 128 ^ k * 128 := Int.pow_succ _ _
        have hz2 : 0 ≤ x % 128 * 128 ^ k := Int.mul_nonneg (by omega) (by omega)
        have hz3 : x % 128 * 128 ^ k ≤ 127 * 128 ^ k := Int.mul_le_mul_of_nonneg_right (by omega) (by omega)
        have h8 := pow_le8 (k := k) (by omega)
        rw [more7 hk ha ha1 (by omega) (by omega) (by omega)] at h
        obtain ⟨n, B, g1, g2, g3, g4, g5, g6⟩ := getGo_back at0 h0 c (k + 1) _ v p (fun y hy => hu y (by simp [hy])) (by omega) (by omega) (by rw [e128]; omega) (by push_cast; omega) h
        have hn1 : 1 ≤ n := by omega
        rw [e128] at g2 g5
        have e3 : (128 * n + x % 128) * 128 ^ k = n * (128 ^ k * 128) + x % 128 * 128 ^ k := by
          rw [Int.add_mul, Int.mul_comm 128 n, Int.mul_assoc, Int.mul_comm 128 (128 ^ k)]
        have el : lebP (128 * n + x % 128) = x :: lebP n := by
          rw [lebP, if_pos (by omega), first_byte (by omega), shr7]
          congr 1
          · omega
          · congr 1; omega
        refine ⟨128 * n + x % 128, B, ?_, ?_, ?_, by omega, ?_, .inl (by omega)⟩
        · rw [el, g1]; rfl
        · rw [e3]; omega
        · rw [el, g3]; simp only [List.length_cons]; push_cast; omega
        · rw [e3]
          have : n * (128 ^ k * 128) + x % 128 * 128 ^ k < 18446744073709551616 := by
            have hq : (18446744073709551616 : Int) = 128 ^ k * (18446744073709551616 / 128 ^ k) := by
              have hdiv : ∀ j : Fin 9, (18446744073709551616 : Int) = 128 ^ (j.val) * (18446744073709551616 / 128 ^ (j.val)) := by decide +kernel
              exact hdiv ⟨k, by omega⟩
            have h7 : n * 128 + x % 128 < 18446744073709551616 / 128 ^ k := by
              have hk7 : ∃ q : Int, 18446744073709551616 / 128 ^ k = 128 * q + 0 ∨ 18446744073709551616 / 128 ^ k = 128 * q := ⟨18446744073709551616 / 128 ^ k / 128, by
                have : ∀ j : Fin 9, (18446744073709551616 : Int) / 128 ^ (j.val) = 128 * (18446744073709551616 / 128 ^ (j.val) / 128) := by decide +kernel
                exact .inr (this ⟨k, by omega⟩)⟩
              obtain ⟨q, hq'⟩ := hk7
              have hq2 : 18446744073709551616 / 128 ^ k = 128 * q := by omega
              rw [hq2] at hq ⊢
              have : n < q := by
                by_cases h : n < q
                · exact h
                · exfalso
                  have h2 : q * (128 ^ k * 128) ≤ n * (128 ^ k * 128) := Int.mul_le_mul_of_nonneg_right (by omega) (by omega)
                  have h3 : q * (128 ^ k * 128) = 128 ^ k * (128 * q) := by rw [Int.mul_comm q, Int.mul_assoc]
                  omega
              omega
            have h9 : (n * 128 + x % 128) * 128 ^ k < 18446744073709551616 / 128 ^ k * 128 ^ k := Int.mul_lt_mul_of_pos_right h7 (by omega)
            have h10 : (n * 128 + x % 128) * 128 ^ k = n * (128 ^ k * 128) + x % 128 * 128 ^ k := by rw [Int.add_mul, Int.mul_assoc, Int.mul_comm 128 (128 ^ k)]
            have h11 : 18446744073709551616 / 128 ^ k * 128 ^ k = (18446744073709551616 : Int) := by rw [Int.mul_comm]; exact hq.symm
            omega
          exact this

theorem getP_back (b : List Int) (at0 v p : Int) (hb : b.length ≤ 4611686018427387904) (hu : U8s b) (h : getP b at0 = (v, p, 0)) : 0 ≤ at0 ∧ at0 ≤ b.length ∧ 0 ≤ v ∧ v ≤ 18446744073709551615 ∧ p = at0 + (lebP v).length ∧ b.drop at0.toNat = lebP v ++ b.drop p.toNat := by
  unfold getP at h
  split at h
  · simp at h
  · rename_i h0
    have hin : at0 < b.length := by
      by_cases h1 : at0 < b.length
      · exact h1
      · rw [List.drop_eq_nil_of_le (by omega)] at h; simp [getGo] at h
    obtain ⟨n, B, g1, g2, g3, g4, g5, _⟩ := getGo_back at0 (by omega) _ 0 0 v p (fun y hy => hu y (List.mem_of_mem_drop hy)) (by omega) (by omega) (by simp) (by simp only [List.length_drop]; omega) h
    simp only [Int.pow_zero, Int.mul_one, Int.zero_add] at g2 g5
    subst g2
    refine ⟨by omega, by omega, g4, by omega, by rw [g3]; simp, ?_⟩
    have e : p.toNat = at0.toNat + (lebP v).length := by rw [g3]; push_cast; omega
    rw [e, ← List.drop_drop, g1, List.drop_left]
theorem U8s_app {a b : List Int} (ha : U8s a) (hb : U8s b) : U8s (a ++ b) := by
  intro x hx
  rcases List.mem_append.1 hx with h | h
  · exact ha x h
  · exact hb x h

theorem cut_to {α : Type} (l : List α) (b : Int) : cut' l none (some b) = l.take b.toNat := by simp [cut']
end Go.Proofs.Ytelobmiooldoaaa.Abs
