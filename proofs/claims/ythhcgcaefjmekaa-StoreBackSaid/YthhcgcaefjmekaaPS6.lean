/- Texts of lists read, plainly. Conditions: none but that bytes are bytes. -/
import Derived.Test.YthhcgcaefjmekaaPS5
namespace Go.Proofs.Ythhcgcaefjmekaa.Abs
open Go Go.RowKit Go.IntWalk Crc
set_option linter.unusedVariables false
set_option linter.unusedSimpArgs false
set_option maxRecDepth 100000

/-- Signed numbers read, and lists of them. -/
def readL (b : List Int) : Nat → Int → List Int → Option (List Int × Int)
  | 0, a, acc => some (acc, a)
  | k + 1, a, acc => if (getP b a).2.2 ≠ 0 then none else readL b k (getP b a).2.1 (acc ++ [zagP (getP b a).1])
def readLs (b : List Int) : Nat → Int → List (List Int) → Option (List (List Int) × Int)
  | 0, a, acc => some (acc, a)
  | k + 1, a, acc => if (getP b a).2.2 ≠ 0 ∨ (getP b a).1 > 4096 then none else match readL b (getP b a).1.toNat (getP b a).2.1 [] with
    | none => none
    | some (x, q) => readLs b k q (acc ++ [x])
def takeP (b : List Int) : Int × List (List Int) × Int :=
  if (getP b 0).2.2 ≠ 0 ∨ (getP b 0).1 > 1073741824 then (0, [], 6)
  else if (getP b (getP b 0).2.1).2.2 ≠ 0 ∨ (getP b (getP b 0).2.1).1 > 8 then (0, [], 6)
  else match readLs b (getP b (getP b 0).2.1).1.toNat (getP b (getP b 0).2.1).2.1 [] with
    | none => (0, [], 6)
    | some (l, z) => if z ≠ (b.length : Int) then (0, [], 6) else ((getP b 0).1, l, 0)

theorem readL_at (b : List Int) (hb : b.length ≤ 4611686018427387904) : ∀ (k : Nat) (a : Int) (acc x : List Int) (q : Int), 0 ≤ a → a ≤ b.length → readL b k a acc = some (x, q) → 0 ≤ q ∧ q ≤ b.length ∧ x.length = acc.length + k
  | 0, a, acc, x, q, h1, h2, h => by simp only [readL, Option.some.injEq, Prod.mk.injEq] at h; obtain ⟨rfl, rfl⟩ := h; omega
  | k + 1, a, acc, x, q, h1, h2, h => by
    simp only [readL] at h
    split at h
    · cases h
    · have hp := getP_at b a hb
      have := readL_at b hb k _ _ x q hp.1 hp.2 h
      rw [List.length_append] at this
      simp at this
      omega
theorem readLs_at (b : List Int) (hb : b.length ≤ 4611686018427387904) : ∀ (k : Nat) (a : Int) (acc l : List (List Int)) (q : Int), 0 ≤ a → a ≤ b.length → readLs b k a acc = some (l, q) → 0 ≤ q ∧ q ≤ b.length
  | 0, a, acc, x, q, h1, h2, h => by simp only [readLs, Option.some.injEq, Prod.mk.injEq] at h; obtain ⟨rfl, rfl⟩ := h; omega
  | k + 1, a, acc, x, q, h1, h2, h => by
    simp only [readLs] at h
    split at h
    · cases h
    · have hp := getP_at b a hb
      split at h
      · cases h
      · rename_i y r hr
        have := readL_at b hb _ _ _ _ _ hp.1 hp.2 hr
        exact readLs_at b hb k _ _ x q this.1 this.2.1 h

section
variable {b : List Int} (hu : U8s b) (hb : b.length ≤ 140737488355328)
include hu hb
theorem Take_eq (a : Int) (h2 : a ≤ b.length) : M_leb_Take b a = some (if (getP b a).2.2 ≠ 0 then (0, 0, (getP b a).2.2) else (zagP (getP b a).1, (getP b a).2.1, 0)) := by
  have hn := getP_u64 b a
  unfold M_leb_Take
  rw [leb_Get_eq b a (by omega) hu (by omega), bindS]
  by_cases h : (getP b a).2.2 ≠ 0
  · rw [if_pos h, if_pos h]
  · rw [if_neg h, if_neg h, Zag_eq hn.1 hn.2, bindS]
theorem refTake_eq1 (a : Int) (h2 : a ≤ b.length) : M_thrumref03_Take b a = some (if (getP b a).2.2 ≠ 0 then (0, 0, (getP b a).2.2) else (zagP (getP b a).1, (getP b a).2.1, 0)) := by
  have hn := getP_u64 b a
  unfold M_thrumref03_Take
  rw [refGet_eq b a (by omega) hu (by omega), bindS]
  by_cases h : (getP b a).2.2 ≠ 0
  · rw [if_pos h, if_pos h]
  · rw [if_neg h, if_neg h, refZag_eq hn.1 hn.2, bindS]
theorem number_eq (a most : Int) (bad : Bool) (h2 : a ≤ b.length) : M_thrum_store_text_number ⟨b, a, bad⟩ most = some (if bad = true ∨ (getP b a).2.2 ≠ 0 ∨ (getP b a).1 > most then (0, b, a, true) else (IntKind.i64.wrap (getP b a).1, b, (getP b a).2.1, bad)) := by
  unfold M_thrum_store_text_number
  simp only
  rw [leb_Get_eq b a (by omega) hu (by omega), bindS, orB, orB]
  by_cases h : bad = true ∨ (getP b a).2.2 ≠ 0 ∨ (getP b a).1 > most
  · rw [if_pos h, if_pos]
    rcases h with h | h | h
    · simp [h]
    · simp [h]
    · simp [h]
  · rw [if_neg h, if_neg]
    simp only [not_or] at h
    obtain ⟨g1, g2, g3⟩ := h
    simp at g1 g2
    simp [g1, g2, g3]

theorem list_l0 (r3 : Int × List Int × Int × Bool) (hr : r3.2.1 = b) : ∀ (j : Nat) (acc : List Int) (a : Int), j ≤ 4096 → acc.length + j ≤ 5000 → 0 ≤ a → a ≤ b.length →
    ∃ r, M_thrum_store_text_list_l0 r3 (j : Int) acc a false = some r ∧ match readL b j a acc with | some (x, q) => r = (x, q, false) | none => r.2.2 = true
  | 0, acc, a, h1, h2, h3, h4 => by
    rw [M_thrum_store_text_list_l0, if_neg (by omega), bindS, if_neg (by simp)]
    exact ⟨_, rfl, rfl⟩
  | j + 1, acc, a, h1, h2, h3, h4 => by
    have hp := getP_at b a (by omega)
    rw [M_thrum_store_text_list_l0, if_pos (by omega), bindS, if_pos (by simp), hr, Take_eq hu hb a h4, bindS, if_pos (room8 (by simp; omega))]
    rw [show IntKind.i64.wrap (((j + 1 : Nat) : Int) - 1) = (j : Int) by rw [i64_in _ (by omega)]; omega]
    simp only [readL]
    by_cases h : (getP b a).2.2 ≠ 0
    · rw [if_pos h, if_pos h]
      simp only
      rw [show ((getP b a).2.2 != 0) = true by simpa using h, M_thrum_store_text_list_l0]
      have : ((if (j : Int) > 0 then some (!true) else some false : Option Bool)) = some false := by split <;> rfl
      rw [this, bindS, if_neg (by simp)]
      exact ⟨_, rfl, rfl⟩
    · rw [if_neg h, if_neg h]
      simp only [bne_self_eq_false]
      exact list_l0 r3 hr j _ _ (by omega) (by rw [List.length_append]; simp; omega) hp.1 hp.2
theorem list_eq (a : Int) (h1 : 0 ≤ a) (h2 : a ≤ b.length) :
    ∃ r, M_thrum_store_text_list ⟨b, a, false⟩ = some r ∧ r.2.1 = b ∧ (if (getP b a).2.2 ≠ 0 ∨ (getP b a).1 > 4096 then r.2.2.2 = true else match readL b (getP b a).1.toNat (getP b a).2.1 [] with | some (x, q) => r = (x, b, q, false) | none => r.2.2.2 = true) := by
  have hp := getP_at b a (by omega)
  have hn := getP_u64 b a
  unfold M_thrum_store_text_list
  rw [if_pos ⟨by omega, by omega, by omega, by omega⟩, bindS, number_eq hu hb a 4096 false h2, bindS]
  rw [show List.replicate (Int.toNat 0) (0 : Int) = [] from rfl]
  by_cases h : (getP b a).2.2 ≠ 0 ∨ (getP b a).1 > 4096
  · rw [if_pos (.inr h)]
    simp only [if_pos h]
    rw [M_thrum_store_text_list_l0, if_neg (by omega), bindS, if_neg (by simp), bindS]
    exact ⟨_, rfl, rfl, rfl⟩
  · rw [if_neg (by simpa using h)]
    simp only [if_neg h]
    have hm : (getP b a).1 ≤ 4096 := by
      have := (not_or.1 h).2; omega
    have e : IntKind.i64.wrap (getP b a).1 = (((getP b a).1.toNat : Nat) : Int) := by rw [i64_in _ (by omega)]; omega
    rw [e]
    obtain ⟨r, g1, g2⟩ := list_l0 hu hb (((getP b a).1.toNat : Nat), b, (getP b a).2.1, false) rfl (getP b a).1.toNat [] (getP b a).2.1 (by omega) (by simp; omega) hp.1 hp.2
    rw [g1, bindS]
    refine ⟨_, rfl, rfl, ?_⟩
    cases hL : readL b (getP b a).1.toNat (getP b a).2.1 [] with
    | none => rw [hL] at g2; exact g2
    | some xq =>
      obtain ⟨x, q⟩ := xq
      rw [hL] at g2
      simp only at g2 ⊢
      rw [g2]

theorem Take_l0 (a0 : List Int) (r1 r2 : Int × List Int × Int × Bool) {K : Nat} (hK : K ≤ 8) (hr : r2.1 = (K : Int)) : ∀ (j : Nat) (acc : List (List Int)) (a : Int), acc.length + j = K → 0 ≤ a → a ≤ b.length →
    ∃ r, M_store_Take_l0 a0 r1 r2 acc b a false = some r ∧ match readLs b j a acc with | some (l, q) => r = (l, b, q, false) | none => r.2.2.2 = true
  | 0, acc, a, h1, h2, h3 => by
    rw [M_store_Take_l0, hr, if_neg (by omega), bindS, if_neg (by simp)]
    exact ⟨_, rfl, rfl⟩
  | j + 1, acc, a, h1, h2, h3 => by
    obtain ⟨r, g1, g2, g3⟩ := list_eq hu hb a h2 h3
    have hp := getP_at b a (by omega)
    have stop : ∀ (x : List (List Int)) (y : List Int) (z : Int), M_store_Take_l0 a0 r1 r2 x y z true = some (x, y, z, true) := by
      intro x y z
      rw [M_store_Take_l0]
      have : ((if (x.length : Int) < r2.1 then some (!true) else some false : Option Bool)) = some false := by split <;> rfl
      rw [this, bindS, if_neg (by simp)]
    rw [M_store_Take_l0, hr, if_pos (by omega), bindS, if_pos (by simp), g1, bindS, if_pos (room_of (by omega) (by simp; omega)), g2]
    simp only [readLs]
    by_cases h : (getP b a).2.2 ≠ 0 ∨ (getP b a).1 > 4096
    · rw [if_pos h] at g3
      rw [if_pos h, g3, stop]
      exact ⟨_, rfl, rfl⟩
    · rw [if_neg h] at g3
      rw [if_neg h]
      cases hL : readL b (getP b a).1.toNat (getP b a).2.1 [] with
      | none =>
        rw [hL] at g3; simp only at g3 ⊢
        rw [g3, stop]
        exact ⟨_, rfl, rfl⟩
      | some xq =>
        obtain ⟨x, q⟩ := xq
        rw [hL] at g3; simp only at g3 ⊢
        have hq := readL_at b (by omega) _ _ _ _ _ hp.1 hp.2 hL
        rw [g3]
        exact Take_l0 a0 r1 r2 hK hr j _ q (by rw [List.length_append]; simp; omega) hq.1 hq.2.1
theorem STake_eq : M_store_Take b = some (takeP b) := by
  have hp := getP_at b 0 (by omega)
  have hn := getP_u64 b 0
  have hp2 := getP_at b (getP b 0).2.1 (by omega)
  have hn2 := getP_u64 b (getP b 0).2.1
  have stop : ∀ (r1 r2 : Int × List Int × Int × Bool) (y : List Int) (z : Int), M_store_Take_l0 b r1 r2 [] y z true = some ([], y, z, true) := by
    intro r1 r2 y z
    rw [M_store_Take_l0]
    have : ((if ((([] : List (List Int)).length : Nat) : Int) < r2.1 then some (!true) else some false : Option Bool)) = some false := by split <;> rfl
    rw [this, bindS, if_neg (by simp)]
  unfold M_store_Take takeP
  rw [number_eq hu hb 0 1073741824 false (by omega), bindS]
  by_cases h : (getP b 0).2.2 ≠ 0 ∨ (getP b 0).1 > 1073741824
  · rw [if_pos (.inr h), if_pos h]
    simp only
    rw [number_eq hu hb 0 8 true (by omega), bindS, if_pos (.inl rfl)]
    simp only
    rw [stop, bindS, if_pos rfl]
    rfl
  · rw [if_neg (by simpa using h), if_neg h]
    simp only
    rw [number_eq hu hb _ 8 false (by omega), bindS]
    by_cases h2 : (getP b (getP b 0).2.1).2.2 ≠ 0 ∨ (getP b (getP b 0).2.1).1 > 8
    · rw [if_pos (.inr h2), if_pos h2]
      simp only
      rw [stop, bindS, if_pos rfl]
      rfl
    · rw [if_neg (by simpa using h2), if_neg h2]
      simp only
      have hm : (getP b (getP b 0).2.1).1 ≤ 8 := by
        have := (not_or.1 h2).2; omega
      have hm0 : (getP b 0).1 ≤ 1073741824 := by
        have := (not_or.1 h).2; omega
      have e : IntKind.i64.wrap (getP b (getP b 0).2.1).1 = (((getP b (getP b 0).2.1).1.toNat : Nat) : Int) := by rw [i64_in _ (by omega)]; omega
      have e0 : IntKind.i64.wrap (getP b 0).1 = (getP b 0).1 := by rw [i64_in _ (by omega)]
      rw [e, e0]
      obtain ⟨r, g1, g2⟩ := Take_l0 hu hb b ((getP b 0).1, b, (getP b 0).2.1, false) ((((getP b (getP b 0).2.1).1.toNat : Nat) : Int), b, (getP b (getP b 0).2.1).2.1, false) (K := (getP b (getP b 0).2.1).1.toNat) (by omega) rfl (getP b (getP b 0).2.1).1.toNat [] (getP b (getP b 0).2.1).2.1 (by simp) hp2.1 hp2.2
      rw [g1, bindS]
      cases hL : readLs b (getP b (getP b 0).2.1).1.toNat (getP b (getP b 0).2.1).2.1 [] with
      | none =>
        rw [hL] at g2; simp only at g2 ⊢
        rw [g2, if_pos rfl]; rfl
      | some lq =>
        obtain ⟨l, q⟩ := lq
        rw [hL] at g2; simp only at g2 ⊢
        have hq := readLs_at b (by omega) _ _ _ _ _ hp2.1 hp2.2 hL
        rw [g2]
        simp only
        rw [if_neg (by simp), bindS]
        by_cases hz : q ≠ (b.length : Int)
        · rw [if_pos hz, if_pos (by simp; omega)]
        · rw [if_neg hz, if_neg (by simp; omega)]

theorem refMany_eq : M_thrumref03_Many b 0 2 = some (two b) := by
  have h1 := getP_at b 0 (by omega)
  unfold M_thrumref03_Many two
  rw [if_neg (by omega), M_thrumref03_Many_l0, if_pos (by omega), refGet_eq b 0 (by omega) hu (by omega), bindS]
  by_cases e1 : (getP b 0).2.2 ≠ 0
  · rw [if_pos e1, if_pos e1]; rfl
  · rw [if_neg e1, if_neg e1, if_pos (room8 (by simp)), show IntKind.i64.wrap (0 + 1) = 1 from rfl, M_thrumref03_Many_l0, if_pos (by omega), refGet_eq b _ (by omega) hu (by omega), bindS]
    by_cases e2 : (getP b (getP b 0).2.1).2.2 ≠ 0
    · rw [if_pos e2, if_pos e2]; rfl
    · rw [if_neg e2, if_neg e2, if_pos (room8 (by simp)), show IntKind.i64.wrap (1 + 1) = 2 from rfl, M_thrumref03_Many_l0, if_neg (by omega)]; rfl
theorem refTake_l1 (a0 : List Int) (ha : a0 = b) (r1 : List Int × Int × Int) (x0 : Int) (x1 : List (List Int)) (r4 : Int × Int × Int) {m : Nat} (hm : m ≤ 4096) (hr : r4.1 = (m : Int)) : ∀ (j k : Nat) (acc : List Int) (a : Int), k + j = m → acc.length = k → 0 ≤ a → a ≤ b.length →
    M_thrumref20_Take_l1 a0 r1 x0 x1 r4 (k : Int) acc a = some (match readL b j a acc with | none => .inl (0, [], 6) | some (x, q) => .inr (x, q))
  | 0, k, acc, a, h1, h2, h3, h4 => by
    rw [M_thrumref20_Take_l1, hr, if_neg (by omega)]; rfl
  | j + 1, k, acc, a, h1, h2, h3, h4 => by
    have hp := getP_at b a (by omega)
    rw [M_thrumref20_Take_l1, hr, if_pos (by omega), ha, refTake_eq1 hu hb a h4, bindS]
    simp only [readL]
    by_cases h : (getP b a).2.2 ≠ 0
    · rw [if_pos h, if_pos h, if_pos h]
    · rw [if_neg h, if_neg h, if_neg (by simp), if_pos (room8 (by simp; omega)), u64_s (by omega)]
      have := refTake_l1 a0 ha r1 x0 x1 r4 hm hr j (k + 1) (acc ++ [zagP (getP b a).1]) (getP b a).2.1 (by omega) (by simp [h2]) hp.1 hp.2
      rw [ha] at this
      exact this
theorem refTake_l0 (r1 : List Int × Int × Int) {K : Nat} (hK : K ≤ 8) (hr : at' r1.1 1 = (K : Int)) : ∀ (j k : Nat) (acc : List (List Int)) (a : Int), k + j = K → acc.length = k → 0 ≤ a → a ≤ b.length →
    M_thrumref20_Take_l0 b r1 (k : Int) acc a = some (match readLs b j a acc with | none => .inl (0, [], 6) | some (x, q) => .inr (x, q))
  | 0, k, acc, a, h1, h2, h3, h4 => by
    rw [M_thrumref20_Take_l0, hr, if_neg (by omega)]; rfl
  | j + 1, k, acc, a, h1, h2, h3, h4 => by
    have hp := getP_at b a (by omega)
    have hn := getP_u64 b a
    rw [M_thrumref20_Take_l0, hr, if_pos (by omega), refGet_eq b a (by omega) hu (by omega), bindS, orB]
    simp only [readLs]
    by_cases h : (getP b a).2.2 ≠ 0 ∨ (getP b a).1 > 4096
    · rw [if_pos h, if_pos]
      rcases h with h | h <;> simp [h]
    · have h5 := not_or.1 h
      have hm : (getP b a).1 ≤ 4096 := by omega
      rw [if_neg h, if_neg (by simp; exact ⟨by simpa using h5.1, hm⟩)]
      have := refTake_l1 hu hb b rfl r1 (k : Int) acc (getP b a) (m := (getP b a).1.toNat) (by omega) (by omega) (getP b a).1.toNat 0 [] (getP b a).2.1 (by omega) rfl hp.1 hp.2
      rw [show M_thrumref20_Take_l1 b r1 (k : Int) acc (getP b a) 0 [] (getP b a).2.1 = _ from this, bindS]
      cases hL : readL b (getP b a).1.toNat (getP b a).2.1 [] with
      | none => rfl
      | some xq =>
        obtain ⟨x, q⟩ := xq
        have hq := readL_at b (by omega) _ _ _ _ _ hp.1 hp.2 hL
        simp only
        rw [if_pos (room_of (by omega) (by simp; omega)), u64_s (by omega)]
        exact refTake_l0 r1 hK hr j (k + 1) _ q (by omega) (by simp [h2]) hq.1 hq.2.1
theorem refSTake_eq : M_thrumref20_Take b = some (takeP b) := by
  have hp := getP_at b 0 (by omega)
  have hn := getP_u64 b 0
  have hp2 := getP_at b (getP b 0).2.1 (by omega)
  have hn2 := getP_u64 b (getP b 0).2.1
  unfold M_thrumref20_Take takeP
  rw [refMany_eq hu hb, bindS]
  unfold two
  by_cases e1 : (getP b 0).2.2 ≠ 0
  · have hc : (getP b 0).2.2 ≠ 0 ∨ (getP b 0).1 > 1073741824 := .inl e1
    rw [if_pos e1, if_pos hc]
    simp [e1, bindS]
  rw [if_neg e1]
  by_cases e2 : (getP b (getP b 0).2.1).2.2 ≠ 0
  · have hc : (getP b (getP b 0).2.1).2.2 ≠ 0 ∨ (getP b (getP b 0).2.1).1 > 8 := .inl e2
    rw [if_pos e2, if_pos hc]
    simp [e2, bindS]
  rw [if_neg e2]
  simp only
  have g0 : (0 : Int) ≤ (0 : Int) ∧ (0 : Int) < (([(getP b 0).1, (getP b (getP b 0).2.1).1].length : Nat) : Int) := ⟨by omega, by simp⟩
  have g1 : (0 : Int) ≤ (1 : Int) ∧ (1 : Int) < (([(getP b 0).1, (getP b (getP b 0).2.1).1].length : Nat) : Int) := ⟨by omega, by simp⟩
  have h0 : at' [(getP b 0).1, (getP b (getP b 0).2.1).1] 0 = (getP b 0).1 := rfl
  have h1 : at' [(getP b 0).1, (getP b (getP b 0).2.1).1] 1 = (getP b (getP b 0).2.1).1 := rfl
  rw [if_pos g0, if_neg (by simp), bindS, h0, if_pos g1, h1, orB, if_pos g1]
  by_cases h : (getP b 0).1 > 1073741824
  · rw [if_pos (by simp [h]), if_pos (.inr h)]
  rw [if_neg (show ¬ ((getP b 0).2.2 ≠ 0 ∨ (getP b 0).1 > 1073741824) from fun hh => hh.elim e1 h)]
  by_cases h2 : (getP b (getP b 0).2.1).1 > 8
  · rw [if_pos (by simp [h2]), if_pos (.inr h2)]
  rw [if_neg (by simp [h, h2]), if_neg (show ¬ ((getP b (getP b 0).2.1).2.2 ≠ 0 ∨ (getP b (getP b 0).2.1).1 > 8) from fun hh => hh.elim e2 h2)]
  have := refTake_l0 hu hb ([(getP b 0).1, (getP b (getP b 0).2.1).1], (getP b (getP b 0).2.1).2.1, 0) (K := (getP b (getP b 0).2.1).1.toNat) (by omega) (by rw [h1]; omega) (getP b (getP b 0).2.1).1.toNat 0 [] (getP b (getP b 0).2.1).2.1 (by omega) rfl hp2.1 hp2.2
  rw [show M_thrumref20_Take_l0 b ([(getP b 0).1, (getP b (getP b 0).2.1).1], (getP b (getP b 0).2.1).2.1, 0) 0 [] (getP b (getP b 0).2.1).2.1 = _ from this, bindS]
  cases hL : readLs b (getP b (getP b 0).2.1).1.toNat (getP b (getP b 0).2.1).2.1 [] with
  | none => rfl
  | some lq =>
    obtain ⟨l, q⟩ := lq
    have e0 : IntKind.i64.wrap (getP b 0).1 = (getP b 0).1 := by rw [i64_in _ (by omega)]
    simp only
    by_cases hz : q ≠ (b.length : Int)
    · rw [if_pos hz, if_pos hz]
    · rw [if_neg hz, if_neg hz, if_pos g0, e0]
end

theorem SameL_l0 (a : List (List Int)) (hl : a.length ≤ 1099511627776) (hx : ∀ x ∈ a, x.length ≤ 4611686018427387904) : ∀ (t : List (List Int)) (k : Nat), a.drop k = t → M_thrumref15_SameLists_l0 a a (k : Int) = some (.inr ())
  | [], k, h => by rw [M_thrumref15_SameLists_l0, if_neg (drop_end h)]
  | x :: t, k, h => by
    obtain ⟨h1, h2, h3⟩ := drop_at h
    have hm : x ∈ a := by
      have : x ∈ a.drop k := by rw [h]; simp
      exact List.mem_of_mem_drop this
    rw [M_thrumref15_SameLists_l0, if_pos h1, if_pos ⟨by omega, h1⟩, if_pos ⟨by omega, h1⟩, h2, Same2_eq x x (hx x hm), bindS, if_neg (by simp), i64_s (by omega)]
    exact SameL_l0 a hl hx t (k + 1) h3
theorem SameL_self (a : List (List Int)) (hl : a.length ≤ 1099511627776) (hx : ∀ x ∈ a, x.length ≤ 4611686018427387904) : M_thrumref15_SameLists a a = some true := by
  unfold M_thrumref15_SameLists
  rw [if_neg (by simp), show M_thrumref15_SameLists_l0 a a 0 = _ from SameL_l0 a hl hx a 0 rfl, bindS]

theorem sigB_u8 (x : List Int) : U8s (sigB x) := by
  intro y hy
  obtain ⟨n, _, hn⟩ := List.mem_flatMap.1 hy
  exact lebP_u8 _ (zigP n) (Nat.le_refl _) y hn
theorem layP_u8 (n : Int) (l : List (List Int)) : U8s (layP n l).1 := by
  unfold layP
  repeat' split
  · intro x hx; simp at hx
  · intro x hx; simp at hx
  · refine U8s_app (U8s_app (lebP_u8 _ _ (Nat.le_refl _)) (lebP_u8 _ _ (Nat.le_refl _))) ?_
    intro y hy
    obtain ⟨x, _, hx⟩ := List.mem_flatMap.1 hy
    exact U8s_app (lebP_u8 _ _ (Nat.le_refl _)) (sigB_u8 x) y hx

theorem readL_len (b : List Int) (hb : b.length ≤ 4611686018427387904) {a : Int} {x : List Int} {q : Int} {k : Nat} (h0 : 0 ≤ a) (h1 : a ≤ b.length) (h : readL b k a [] = some (x, q)) : x.length = k := by
  have := (readL_at b hb k a [] x q h0 h1 h).2.2; simpa using this
theorem readLs_small (b : List Int) (hb : b.length ≤ 4611686018427387904) : ∀ (k : Nat) (a : Int) (acc l : List (List Int)) (q : Int), 0 ≤ a → a ≤ b.length → readLs b k a acc = some (l, q) → (∀ x ∈ acc, x.length ≤ 4096) → l.length = acc.length + k ∧ ∀ x ∈ l, x.length ≤ 4096
  | 0, a, acc, l, q, h1, h2, h, hx => by simp only [readLs, Option.some.injEq, Prod.mk.injEq] at h; obtain ⟨rfl, rfl⟩ := h; exact ⟨by omega, hx⟩
  | k + 1, a, acc, l, q, h1, h2, h, hx => by
    simp only [readLs] at h
    split at h
    · cases h
    · rename_i hc
      have hp := getP_at b a hb
      have hn := getP_u64 b a
      split at h
      · cases h
      · rename_i y r hr
        have hat := readL_at b hb _ _ _ _ _ hp.1 hp.2 hr
        have hy := readL_len b hb hp.1 hp.2 hr
        have := readLs_small b hb k _ _ l q hat.1 hat.2.1 h (fun x hx' => by
          rcases List.mem_append.1 hx' with hx' | hx'
          · exact hx x hx'
          · simp only [List.mem_singleton] at hx'; subst hx'
            have := (not_or.1 hc).2; omega)
        rw [List.length_append] at this
        simp only [List.length_cons, List.length_nil] at this
        exact ⟨by omega, this.2⟩
theorem takeP_small (b : List Int) (hb : b.length ≤ 4611686018427387904) : (takeP b).2.1.length ≤ 8 ∧ ∀ x ∈ (takeP b).2.1, x.length ≤ 4096 := by
  have hp := getP_at b 0 hb
  have hp2 := getP_at b (getP b 0).2.1 hb
  have hn2 := getP_u64 b (getP b 0).2.1
  unfold takeP
  split
  · simp
  · split
    · simp
    · rename_i hc
      split
      · simp
      · rename_i l z hl
        have := readLs_small b hb _ _ _ _ _ hp2.1 hp2.2 hl (by simp)
        split
        · simp
        · have h8 := (not_or.1 hc).2
          simp only [List.length_nil] at this
          exact ⟨by simp only; omega, this.2⟩

theorem Lays_l0 (a0 : Int) (a1 : List (List Int)) (a2 : List Int) (hl : a1.length ≤ 20) : ∀ (t : List (List Int)) (k : Nat), a1.drop k = t → M_thrumlaw20_StoreLays_l0 a0 a1 a2 true (k : Int) = some (if ∀ x ∈ t, x.length ≤ 5000 then .inr () else .inl true)
  | [], k, h => by rw [M_thrumlaw20_StoreLays_l0, if_neg (drop_end h)]; simp
  | x :: t, k, h => by
    obtain ⟨h1, h2, h3⟩ := drop_at h
    rw [M_thrumlaw20_StoreLays_l0, if_pos h1, if_pos ⟨by omega, h1⟩, h2]
    by_cases hc : (x.length : Int) > 5000
    · rw [if_pos hc, if_neg (fun h => by have := h x (by simp); omega)]
    · rw [if_neg hc, i64_s (by omega), Lays_l0 a0 a1 a2 hl t (k + 1) h3]
      by_cases ht : ∀ y ∈ t, y.length ≤ 5000
      · rw [if_pos ht, if_pos (fun y hy => by
          rcases List.mem_cons.1 hy with rfl | hy
          · omega
          · exact ht y hy)]
      · rw [if_neg ht, if_neg (fun h => ht fun y hy => h y (by simp [hy]))]
theorem StoreLays_true (n : Int) (l : List (List Int)) (b : List Int) (hn : I64 n) (hl : l.length ≤ 140737488355328) (hx : ∀ x ∈ l, ∀ n ∈ x, I64 n) (hu : U8s b) (hb : b.length ≤ 140737488355328) : M_thrumlaw20_StoreLays n l b = some true := by
  unfold M_thrumlaw20_StoreLays
  rw [live20_eq, bindS, if_neg (by simp), orB]
  by_cases h1 : (decide ((l.length : Int) > 20) || decide ((b.length : Int) > 5000)) = true
  · rw [if_pos h1]
  · rw [if_neg h1]
    simp only [Bool.or_eq_true, decide_eq_true_eq, not_or] at h1
    rw [show M_thrumlaw20_StoreLays_l0 n l b true 0 = _ from Lays_l0 n l b (by omega) l 0 rfl, bindS]
    by_cases h2 : ∀ x ∈ l, x.length ≤ 5000
    · rw [if_pos h2]
      simp only
      have hxx : ∀ x ∈ l, x.length ≤ 5000 ∧ ∀ n ∈ x, I64 n := fun x h => ⟨h2 x h, hx x h⟩
      have hs := Same_eq (layP n l).1 (layP n l).1 (layP_u8 n l) (layP_u8 n l)
      have hsm := takeP_small b (by omega)
      have hL := SameL_self (takeP b).2.1 (by omega) (fun x h => by have := hsm.2 x h; omega)
      rw [Lay_eq n l hn (by omega) hxx, bindS, refLay_eq n l hn (by omega) hxx, bindS, STake_eq hu hb, bindS, refSTake_eq hu hb, bindS]
      simp [hs, hL, bindS]
    · rw [if_neg h2]
end Go.Proofs.Ythhcgcaefjmekaa.Abs
