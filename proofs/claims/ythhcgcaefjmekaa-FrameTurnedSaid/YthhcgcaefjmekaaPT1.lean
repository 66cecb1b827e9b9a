/- Plain facts on frames of which bits were turned. Conditions: none. -/
import Derived.Test.YthhcgcaefjmekaaPG10
namespace Go.Proofs.Ythhcgcaefjmekaa.Abs
open Go Go.RowKit Go.IntWalk Crc
set_option linter.unusedVariables false
set_option linter.unnecessarySimpa false
set_option linter.unusedSimpArgs false
set_option maxRecDepth 100000

/-- So many bits on. -/
def AbN : Nat → Wd → Wd
  | 0, w => w
  | n + 1, w => AbN n (Ab w)
theorem AbN8 (w : Wd) : AbN 8 w = A8 w := rfl

theorem low_bit (w : Wd) : bAnd .u32 (Un w) 1 = if w.getLsbD 0 then 1 else 0 := by
  unfold bAnd
  show IntKind.u32.wrap ((BitVec.ofInt 32 (Un w) &&& BitVec.ofInt 32 1).toNat : Int) = _
  rw [of_Un, IntKind.wrap_u32, BitVec.toNat_and]
  have : (BitVec.ofInt 32 1).toNat = 2 ^ 1 - 1 := rfl
  rw [this, Nat.and_two_pow_sub_one_eq_mod]
  have h : w.getLsbD 0 = decide (w.toNat % 2 = 1) := by rw [BitVec.getLsbD, Nat.testBit_zero]
  rw [h]
  by_cases h2 : w.toNat % 2 = 1
  · simp [h2]
  · simp [h2]; omega

/-- A bit is turned. -/
def turnB (b : List (BitVec 8)) (k : Nat) : List (BitVec 8) := b.set (k / 8) (b.getD (k / 8) 0#8 ^^^ (1#8 <<< (k % 8)))
theorem turnB_len (b : List (BitVec 8)) (k : Nat) : (turnB b k).length = b.length := by simp [turnB]

theorem shr3z (x : Int) : sShr .i64 x 3 = x / 8 := by
  unfold sShr
  show x.fdiv (2 ^ (min (3 : Int).toNat 64)) = _
  rw [show (2 : Int) ^ (min (3 : Int).toNat 64) = 8 from rfl, Int.fdiv_eq_ediv_of_nonneg _ (by omega)]
theorem and7z {x : Int} (h0 : 0 ≤ x) (h1 : x ≤ 9223372036854775807) : bAnd .i64 x 7 = x % 8 := by
  unfold bAnd
  show IntKind.i64.wrap ((BitVec.ofInt 64 x &&& BitVec.ofInt 64 7).toNat : Int) = _
  rw [BitVec.toNat_and, show (BitVec.ofInt 64 7).toNat = 2 ^ 3 - 1 from rfl, Nat.and_two_pow_sub_one_eq_mod, BitVec.toNat_ofInt, i64_in _ (by omega)]
  omega
theorem shl8 {k : Nat} (hk : k < 8) : sShl .u8 1 (k : Int) = Yn (1#8 <<< k) := by
  have : ∀ j : Fin 8, sShl .u8 1 ((j.val : Nat) : Int) = Yn (1#8 <<< j.val) := by decide
  exact this ⟨k, hk⟩
theorem at_Yn (b : List (BitVec 8)) (k : Nat) : at' (b.map Yn) (k : Int) = Yn (b.getD k 0#8) := by
  simp only [at', Int.toNat_natCast, List.getD_eq_getElem?_getD, List.getElem?_map]
  cases b[k]? <;> rfl
theorem set_Yn (b : List (BitVec 8)) (k : Nat) (y : BitVec 8) : (b.map Yn).set k (Yn y) = (b.set k y).map Yn := by rw [List.map_set]

theorem turn_eq (b : List (BitVec 8)) (x : Int) (hx : x ≤ 9223372036854775807) (hb : b.length ≤ 140737488355328) :
    M_crc_Turn (b.map Yn) x = some (if x < 0 ∨ x / 8 ≥ (b.length : Int) then ([], 1) else ((turnB b x.toNat).map Yn, 0)) := by
  rw [M_crc_Turn, orB, List.length_map, shr3z]
  by_cases h0 : x < 0
  · rw [if_pos (by simp [h0]), if_pos (.inl h0)]
  by_cases h1 : x / 8 ≥ (b.length : Int)
  · rw [if_pos (by simp [h0, h1]), if_pos (.inr h1)]
  obtain ⟨k, rfl⟩ : ∃ k : Nat, x = k := ⟨x.toNat, by omega⟩
  rw [if_neg (by simp [h0]; omega), if_neg (by omega), cloneB_eq _ hb, bindS, List.length_map, if_pos (by omega), and7z (by omega) hx, if_pos (by omega), if_pos (by omega)]
  have e1 : (k : Int) / 8 = ((k / 8 : Nat) : Int) := by omega
  have e2 : (k : Int) % 8 = ((k % 8 : Nat) : Int) := by omega
  rw [e1, e2, at_Yn, shl8 (by omega), xor_Yn, Int.toNat_natCast, set_Yn]
  rfl
set_option linter.unusedSimpArgs false

theorem Ab_zero : Ab 0#32 = 0#32 := by decide
theorem Ab_ne {x : Wd} (h : x ≠ 0#32) : Ab x ≠ 0#32 := by
  intro h'
  apply h
  unfold Ab at h'
  cases hb : x.getLsbD 0 with
  | true =>
    rw [hb] at h'
    have := congrArg (fun w : Wd => w.getLsbD 31) h'
    simp only [if_true, BitVec.getLsbD_xor, BitVec.getLsbD_ushiftRight] at this
    rw [BitVec.getLsbD_of_ge x (1 + 31) (by omega)] at this
    simp [poly] at this
  | false =>
    rw [hb] at h'
    apply BitVec.eq_of_getLsbD_eq
    intro i hi
    cases i with
    | zero => rw [hb]; simp
    | succ i =>
      have := congrArg (fun w : Wd => w.getLsbD i) h'
      simp only [Bool.false_eq_true, if_false, BitVec.getLsbD_xor, BitVec.getLsbD_ushiftRight, BitVec.getLsbD_zero, Bool.xor_false] at this
      rw [Nat.add_comm] at this
      rw [this]; simp
theorem AbN_xor : ∀ (n : Nat) (a b : Wd), AbN n (a ^^^ b) = AbN n a ^^^ AbN n b
  | 0, a, b => rfl
  | n + 1, a, b => by simp only [AbN, Ab_xor]; exact AbN_xor n _ _
theorem AbN_zero : ∀ n : Nat, AbN n 0#32 = 0#32
  | 0 => rfl
  | n + 1 => by rw [AbN, Ab_zero]; exact AbN_zero n
theorem AbN_ne : ∀ (n : Nat) {x : Wd}, x ≠ 0#32 → AbN n x ≠ 0#32
  | 0, x, h => h
  | n + 1, x, h => AbN_ne n (Ab_ne h)
theorem AbN_succ : ∀ (n : Nat) (x : Wd), AbN (n + 1) x = Ab (AbN n x)
  | 0, x => rfl
  | n + 1, x => by rw [AbN, AbN_succ n, AbN]

/-- A bit as a word. -/
def bitW (b : Bool) : Wd := if b then 1#32 else 0#32
/-- Bits fed one by one. -/
def Sb (c : Wd) (E : Nat → Bool) : Nat → Wd
  | 0 => c
  | j + 1 => Ab (Sb c E j ^^^ bitW (E j))
/-- Bits as a word. -/
def wordE (E : Nat → Bool) : Nat → Wd
  | 0 => 0#32
  | j + 1 => wordE E j ^^^ (bitW (E j) <<< j)

theorem one_down : ∀ j : Fin 32, AbN j.val (1#32 <<< j.val) = 1#32 := by decide
theorem bit_down {j : Nat} (h : j < 32) (b : Bool) : AbN j (bitW b <<< j) = bitW b := by
  cases b
  · simp only [bitW, Bool.false_eq_true, if_false, BitVec.zero_shiftLeft]; exact AbN_zero j
  · exact one_down ⟨j, h⟩
theorem Sb_word (c : Wd) (E : Nat → Bool) : ∀ j : Nat, j ≤ 32 → Sb c E j = AbN j (c ^^^ wordE E j)
  | 0, _ => by simp [Sb, AbN, wordE]
  | j + 1, h => by
    rw [Sb, Sb_word c E j (by omega), wordE, ← BitVec.xor_assoc, AbN_succ, AbN_xor j (c ^^^ wordE E j), bit_down (by omega)]
theorem wordE_get (E : Nat → Bool) : ∀ (j i : Nat), j ≤ 32 → i < 32 → (wordE E j).getLsbD i = (decide (i < j) && E i)
  | 0, i, _, _ => by simp [wordE]
  | j + 1, i, hj, hi => by
    rw [wordE, BitVec.getLsbD_xor, wordE_get E j i (by omega) hi, BitVec.getLsbD_shiftLeft]
    by_cases h : i = j
    · subst h
      cases hE : E i <;> simp [bitW, hi]
    · by_cases h2 : i < j
      · have : i < j + 1 := by omega
        simp [h2, this]
      · have h3 : ¬ i < j + 1 := by omega
        have h4 : i - j ≠ 0 := by omega
        simp [h2, h3]
        intro _
        unfold bitW
        split
        · rw [BitVec.getLsbD_one]; simp [h4]
        · simp
theorem Sb_add (c : Wd) (E : Nat → Bool) (m : Nat) : ∀ j : Nat, Sb c E (m + j) = Sb (Sb c E m) (fun k => E (m + k)) j
  | 0 => rfl
  | j + 1 => by rw [← Nat.add_assoc, Sb, Sb_add c E m j, Sb]
theorem Sb_congr {c : Wd} {E F : Nat → Bool} : ∀ {j : Nat}, (∀ k < j, E k = F k) → Sb c E j = Sb c F j
  | 0, _ => rfl
  | j + 1, h => by rw [Sb, Sb, Sb_congr fun k hk => h k (by omega), h j (by omega)]
theorem Sb_none (c : Wd) {E : Nat → Bool} : ∀ {j : Nat}, (∀ k < j, E k = false) → Sb c E j = AbN j c
  | 0, _ => rfl
  | j + 1, h => by rw [Sb, Sb_none c fun k hk => h k (by omega), h j (by omega), AbN_succ]; simp [bitW]
theorem word_ne {E : Nat → Bool} {j i : Nat} (hj : j ≤ 32) (hi : i < j) (hE : E i = true) : wordE E j ≠ 0#32 := by
  intro h
  have := wordE_get E j i hj (by omega)
  rw [h, hE] at this
  simp [hi] at this

/-- A text's bits. -/
def bitAt (t : List (BitVec 8)) (k : Nat) : Bool := (t.getD (k / 8) 0#8).getLsbD (k % 8)
theorem feed_bits (c : Wd) (y : BitVec 8) : feed c y = Sb c (fun k => y.getLsbD k) 8 := by
  rw [Sb_word _ _ _ (by omega), AbN8, feed]
  congr 2
  apply BitVec.eq_of_getLsbD_eq
  intro i hi
  rw [wordE_get _ _ _ (by omega) hi, BitVec.getLsbD_setWidth]
  by_cases h : i < 8
  · simp [h, hi]
  · have : y.getLsbD i = false := BitVec.getLsbD_of_ge _ _ (by omega)
    simp [h, this]
theorem fold_bits : ∀ (t : List (BitVec 8)) (c : Wd), t.foldl feed c = Sb c (bitAt t) (8 * t.length)
  | [], c => rfl
  | y :: t, c => by
    rw [List.foldl_cons, fold_bits t, List.length_cons, show 8 * (t.length + 1) = 8 + 8 * t.length by omega, Sb_add]
    have h1 : Sb c (bitAt (y :: t)) 8 = feed c y := by
      rw [feed_bits]
      apply Sb_congr
      intro k hk
      have e1 : k / 8 = 0 := by omega
      have e2 : k % 8 = k := by omega
      simp [bitAt, e1, e2]
    rw [h1]
    apply Sb_congr
    intro k hk
    have e1 : (8 + k) / 8 = k / 8 + 1 := by omega
    have e2 : (8 + k) % 8 = k % 8 := by omega
    simp [bitAt, e1, e2]

/-- Two texts turned by one another. -/
def xorB (a b : List (BitVec 8)) : List (BitVec 8) := List.zipWith (· ^^^ ·) a b
theorem feed_xor (a b : Wd) (x y : BitVec 8) : feed (a ^^^ b) (x ^^^ y) = feed a x ^^^ feed b y := by
  unfold feed
  rw [← A8_xor]
  congr 1
  apply BitVec.eq_of_getLsbD_eq
  intro i hi
  simp only [BitVec.getLsbD_xor, BitVec.getLsbD_setWidth, hi, decide_true, Bool.true_and]
  cases a.getLsbD i <;> cases b.getLsbD i <;> cases x.getLsbD i <;> cases y.getLsbD i <;> rfl
theorem fold_xor : ∀ (t u : List (BitVec 8)) (a b : Wd), t.length = u.length → (xorB t u).foldl feed (a ^^^ b) = t.foldl feed a ^^^ u.foldl feed b
  | [], [], a, b, _ => rfl
  | [], _ :: _, a, b, h => by simp at h
  | _ :: _, [], a, b, h => by simp at h
  | x :: t, y :: u, a, b, h => by
    have := fold_xor t u (feed a x) (feed b y) (by simpa using h)
    simp only [xorB, List.zipWith_cons_cons, List.foldl_cons, feed_xor]
    exact this
theorem xorB_len {t u : List (BitVec 8)} (h : t.length = u.length) : (xorB t u).length = t.length := by simp [xorB, h]
theorem xorB_bit {t u : List (BitVec 8)} (h : t.length = u.length) (k : Nat) : bitAt (xorB t u) k = (bitAt t k ^^ bitAt u k) := by
  unfold bitAt xorB
  rw [← BitVec.getLsbD_xor]
  congr 1
  simp only [List.getD_eq_getElem?_getD, List.getElem?_zipWith]
  by_cases hk : k / 8 < t.length
  · simp [hk, h ▸ hk]
  · have hk2 : ¬ k / 8 < u.length := by omega
    rw [List.getElem?_eq_none (by omega : t.length ≤ k / 8), List.getElem?_eq_none (by omega : u.length ≤ k / 8)]
    simp

theorem le4_word (c w : Wd) : (le4 w).foldl feed c = AbN 32 (c ^^^ w) := by
  have key : ∀ (c w : Wd), feed c (w.setWidth 8) = A8 (c ^^^ w) ^^^ (w >>> 8) := by
    intro c w
    have h1 : feed c (w.setWidth 8) = Sb c (fun k => w.getLsbD k) 8 := by
      rw [feed_bits]
      apply Sb_congr
      intro k hk
      simp [hk]
    have h2 : c ^^^ w = (c ^^^ (w.setWidth 8).setWidth 32) ^^^ ((w >>> 8) <<< 8) := by
      apply BitVec.eq_of_getLsbD_eq
      intro i hi
      simp only [BitVec.getLsbD_xor, BitVec.getLsbD_setWidth, BitVec.getLsbD_shiftLeft, BitVec.getLsbD_ushiftRight, hi, decide_true, Bool.true_and]
      by_cases h : i < 8
      · simp [h]
      · have : 8 + (i - 8) = i := by omega
        simp [h, this]
    rw [h2, A8_xor]
    have h3 : A8 ((w >>> 8) <<< 8) = w >>> 8 := by
      have e : ∀ k : Nat, k < 8 → (((w >>> 8) <<< 8) >>> k).getLsbD 0 = false := by
        intro k hk
        rw [BitVec.getLsbD_ushiftRight, BitVec.getLsbD_shiftLeft]
        simp; omega
      have s : ∀ k : Nat, k < 8 → Ab (((w >>> 8) <<< 8) >>> k) = ((w >>> 8) <<< 8) >>> (k + 1) := by
        intro k hk
        have := e k hk
        unfold Ab; rw [this, BitVec.shiftRight_add]; simp
      unfold A8
      have h0 := s 0 (by omega)
      rw [BitVec.ushiftRight_zero] at h0
      rw [h0, s 1 (by omega), s 2 (by omega), s 3 (by omega), s 4 (by omega), s 5 (by omega), s 6 (by omega), s 7 (by omega)]
      apply BitVec.eq_of_getLsbD_eq
      intro i hi
      simp only [BitVec.getLsbD_shiftLeft, BitVec.getLsbD_ushiftRight]
      by_cases h : 8 + i < 32
      · simp [h]
      · have : w.getLsbD (8 + i) = false := BitVec.getLsbD_of_ge _ _ (by omega)
        simp [this]
    rw [h3, feed, BitVec.xor_assoc, BitVec.xor_self, BitVec.xor_zero]
  have a8 : ∀ n (x : Wd), AbN n (A8 x) = AbN (n + 8) x := fun n x => rfl
  have z : w >>> 8 >>> 8 >>> 8 >>> 8 = 0#32 := by
    rw [← BitVec.shiftRight_add, ← BitVec.shiftRight_add, ← BitVec.shiftRight_add]
    exact BitVec.ushiftRight_eq_zero (by omega)
  have e16 : w >>> 16 = w >>> 8 >>> 8 := by rw [← BitVec.shiftRight_add]
  have e24 : w >>> 24 = w >>> 8 >>> 8 >>> 8 := by rw [← BitVec.shiftRight_add, ← BitVec.shiftRight_add]
  have r : ∀ x v : Wd, A8 x ^^^ v ^^^ v = A8 x := fun x v => by rw [BitVec.xor_assoc, BitVec.xor_self, BitVec.xor_zero]
  simp only [le4, List.foldl_cons, List.foldl_nil]
  rw [e16, e24, key, key, r, key, r, key, r, z, BitVec.xor_zero]
  rfl

/-- What is sealed is told by its sum over all. -/
theorem seal_all (b : List (BitVec 8)) : (sealB b).foldl feed (BitVec.allOnes 32) = AbN 32 (BitVec.allOnes 32) := by
  rw [sealB, List.foldl_append, le4_word]
  congr 1
  have : sumB b = ~~~ (b.foldl feed (BitVec.allOnes 32)) := by
    rw [sumB, moreB, BitVec.not_zero]
  rw [this]
  generalize b.foldl feed (BitVec.allOnes 32) = c
  apply BitVec.eq_of_getLsbD_eq
  intro i hi
  rw [BitVec.getLsbD_xor, BitVec.getLsbD_not, BitVec.getLsbD_allOnes]
  cases c.getLsbD i <;> simp [hi]

/-- THE BURST: bits beside one another, not all of them as they were, are told. -/
theorem burst_told {s t : List (BitVec 8)} {P : Nat → Bool} {fr : Nat} (hl : t.length = s.length) (hb : ∀ k < 8 * s.length, bitAt t k = (bitAt s k ^^ (decide (fr ≤ k) && decide (k < fr + 32) && P (k - fr))))
    {i : Nat} (hi : i < 32) (hP : P i = true) (hm : fr + i < 8 * s.length) : t.foldl feed (BitVec.allOnes 32) ≠ s.foldl feed (BitVec.allOnes 32) := by
  intro he
  have h1 := fold_xor t s (BitVec.allOnes 32) (BitVec.allOnes 32) hl
  rw [he, BitVec.xor_self, BitVec.xor_self, fold_bits, xorB_len hl, hl] at h1
  have h2 : Sb 0#32 (bitAt (xorB t s)) (8 * s.length) = Sb 0#32 (fun k => decide (fr ≤ k) && decide (k < fr + 32) && P (k - fr)) (8 * s.length) := by
    apply Sb_congr
    intro k hk
    rw [xorB_bit hl, hb k hk]
    cases bitAt s k <;> simp
  rw [h2] at h1
  obtain ⟨j, rest, hj, hM, hij⟩ : ∃ j rest, j ≤ 32 ∧ 8 * s.length = fr + (j + rest) ∧ i < j ∧ (rest ≠ 0 → j = 32) := by
    by_cases h : fr + 32 ≤ 8 * s.length
    · exact ⟨32, 8 * s.length - fr - 32, by omega, by omega, hi, fun _ => rfl⟩
    · exact ⟨8 * s.length - fr, 0, by omega, by omega, by omega, fun h => absurd rfl h⟩
  rw [hM, Sb_add, Sb_none 0#32 (j := fr) (fun k hk => by simp; omega), AbN_zero, Sb_add, Sb_word _ _ _ hj, BitVec.zero_xor] at h1
  rw [Sb_none _ (j := rest) ?_] at h1
  · refine AbN_ne rest (AbN_ne j (word_ne hj hij.1 ?_)) h1
    have : fr + i - fr = i := by omega
    simp [this, hP, hi]
  · intro k hk
    have := hij.2 (by omega)
    subst this
    simp; omega

theorem turnB_bit {s : List (BitVec 8)} {k0 : Nat} (h : k0 < 8 * s.length) (k : Nat) : bitAt (turnB s k0) k = (bitAt s k ^^ decide (k = k0)) := by
  unfold bitAt turnB
  simp only [List.getD_eq_getElem?_getD, List.getElem?_set]
  by_cases hk : k0 / 8 = k / 8
  · have hlt : k0 / 8 < s.length := by omega
    rw [if_pos hk, ← hk]
    simp only [hlt, if_true, Option.getD_some, BitVec.getLsbD_xor]
    congr 1
    have h8 : k % 8 < 8 := by omega
    rw [BitVec.getLsbD_shiftLeft]
    simp only [h8, decide_true, Bool.true_and]
    by_cases e : k = k0
    · subst e; simp
    · have : k % 8 ≠ k0 % 8 := by omega
      rw [BitVec.getLsbD_one]
      simp [e]
      try omega
  · rw [if_neg hk]
    have : k ≠ k0 := by intro e; subst e; exact hk rfl
    simp [this]
theorem turnB_twice (s : List (BitVec 8)) (k : Nat) : turnB (turnB s k) k = s := by
  unfold turnB
  rw [List.set_set]
  apply List.ext_getElem?
  intro i
  rw [List.getElem?_set]
  by_cases h : k / 8 = i
  · subst h
    by_cases hl : k / 8 < s.length
    · simp [hl, BitVec.xor_assoc]
    · have : s[k / 8]? = none := List.getElem?_eq_none (by omega)
      simp [hl, this]
  · simp [h]
/-- What the loop keeps. -/
def Inv (s : List (BitVec 8)) (p : Wd) (fr i : Nat) (met : Bool) (t : List (BitVec 8)) : Prop :=
  t.length = s.length ∧ (∀ k < 8 * s.length, bitAt t k = (bitAt s k ^^ (decide (fr ≤ k) && decide (k < fr + i) && p.getLsbD (k - fr)))) ∧
    (met = true → ∃ j < 32, p.getLsbD j = true ∧ fr + j < 8 * s.length) ∧ (met = false → t = s)

theorem bursts_l0 (s : List (BitVec 8)) (p : Wd) (y7 : Int) (fr : Nat) (hs : s.length ≤ 70000) (h1 : IntKind.i64.wrap (8 * ((s.map Yn).length : Int)) = ((8 * s.length : Nat) : Int)) (h2 : Int.tmod y7 ((8 * s.length : Nat) : Int) = (fr : Int)) (h3 : fr < 8 * s.length) :
    ∀ (n i : Nat) (met : Bool) (t : List (BitVec 8)), i + n = 32 → Inv s p fr i met t → ∃ met' t', M_thrumlaw07_FrameTurned_l0 (Un p) true (s.map Yn, 0) y7 (i : Int) met (t.map Yn) = some (.inr (met', t'.map Yn)) ∧ Inv s p fr 32 met' t'
  | 0, i, met, t, hn, hi => by
    refine ⟨met, t, ?_, by rw [show (32 : Nat) = i by omega]; exact hi⟩
    rw [M_thrumlaw07_FrameTurned_l0, if_neg (by omega)]
  | n + 1, i, met, t, hn, ⟨k1, k2, k3, k4⟩ => by
    have hb : (bAnd .u32 (sShr .u32 (Un p) (i : Int)) 1 = 1) ↔ p.getLsbD i = true := by
      rw [shr_Un p i (by omega), low_bit, BitVec.getLsbD_ushiftRight, Nat.add_zero]
      cases p.getLsbD i <;> simp
    have hw : IntKind.i64.wrap ((fr : Int) + (i : Int)) = ((fr + i : Nat) : Int) := by rw [i64_in _ (by omega)]; omega
    by_cases hc : p.getLsbD i = true ∧ fr + i < 8 * s.length
    · have next : Inv s p fr (i + 1) true (turnB t (fr + i)) := by
        refine ⟨by rw [turnB_len]; exact k1, fun k hk => ?_, fun _ => ⟨i, by omega, hc.1, hc.2⟩, fun h => by cases h⟩
        rw [turnB_bit (by rw [k1]; exact hc.2), k2 k hk]
        by_cases e : k = fr + i
        · subst e
          simp [hc.1]
        · have : decide (k < fr + (i + 1)) = decide (k < fr + i) := by
            by_cases h : k < fr + i
            · simp [h]; omega
            · simp [h]; omega
          rw [this]; simp [e]
      obtain ⟨met', t', r1, r2⟩ := bursts_l0 s p y7 fr hs h1 h2 h3 n (i + 1) true (turnB t (fr + i)) (by omega) next
      refine ⟨met', t', ?_, r2⟩
      rw [M_thrumlaw07_FrameTurned_l0, if_pos (by omega), if_pos (by omega), if_pos (hb.2 hc.1)]
      dsimp only
      rw [h1, h2, hw, bindS, if_pos (by simpa using (by omega : ((fr + i : Nat) : Int) < ((8 * s.length : Nat) : Int))), bindS, turn_eq _ _ (by omega) (by omega), if_neg (by omega), bindS, if_neg (by simp), i64_s (by omega)]
      exact r1
    · have next : Inv s p fr (i + 1) met t := by
        refine ⟨k1, fun k hk => ?_, k3, k4⟩
        rw [k2 k hk]
        by_cases e : k = fr + i
        · subst e
          have : p.getLsbD i = false := by
            cases h : p.getLsbD i with
            | false => rfl
            | true => exact absurd ⟨h, hk⟩ hc
          simp [this]
        · have : decide (k < fr + (i + 1)) = decide (k < fr + i) := by
            by_cases h : k < fr + i
            · simp [h]; omega
            · simp [h]; omega
          rw [this]
      obtain ⟨met', t', r1, r2⟩ := bursts_l0 s p y7 fr hs h1 h2 h3 n (i + 1) met t (by omega) next
      refine ⟨met', t', ?_, r2⟩
      rw [M_thrumlaw07_FrameTurned_l0, if_pos (by omega), if_pos (by omega)]
      dsimp only
      rw [h1, h2, hw]
      have hj : (if bAnd .u32 (sShr .u32 (Un p) (i : Int)) 1 = 1 then some (decide (((fr + i : Nat) : Int) < ((8 * s.length : Nat) : Int))) else some false : Option Bool) = some false := by
        by_cases hp : p.getLsbD i = true
        · rw [if_pos (hb.2 hp), decide_eq_false]
          intro h
          exact hc ⟨hp, by omega⟩
        · rw [if_neg (fun h => hp (hb.1 h))]
      rw [hj, bindS, if_neg (by simp), i64_s (by omega)]
      exact r1

end Go.Proofs.Ythhcgcaefjmekaa.Abs
