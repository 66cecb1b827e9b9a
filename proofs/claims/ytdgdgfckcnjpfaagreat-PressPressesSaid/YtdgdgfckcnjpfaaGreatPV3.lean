/- Plain facts: vectors' sums, sizes; levels. Conditions: none. -/
import Derived.Test.YtdgdgfckcnjpfaaGreatPHb
import Derived.Test.YtdgdgfckcnjpfaaGreatPV1
import Derived.Test.YtdgdgfckcnjpfaaGreatPV2
namespace Go.Proofs.YtdgdgfckcnjpfaaGreat.Abs
open Go Go.RowKit Go.IntWalk
set_option linter.unusedVariables false
set_option linter.unusedSimpArgs false
set_option linter.unnecessarySimpa false
set_option maxRecDepth 100000

instance : DecidablePred J64 := fun x => by unfold J64; infer_instance
/-- A number, if it does not go over. -/
def ov (x : Int) : Int × Int := if J64 x then (x, 0) else (0, 2)
theorem J64_wrap {x : Int} (h : J64 x) : IntKind.i64.wrap x = x := i64_in _ h
theorem fAdd_eq {a b : Int} (ha : J64 a) (hb : J64 b) : M_fix_Add a b = some (ov (a + b)) := by
  have h := over_add ha hb
  rw [M_fix_Add, ov]
  by_cases c : J64 (a + b)
  · rw [if_neg (fun x => h.1 x c), if_pos c, J64_wrap c]
  · rw [if_pos (h.2 c), if_neg c]
theorem fSub_eq {a b : Int} (ha : J64 a) (hb : J64 b) : M_fix_Sub a b = some (ov (a - b)) := by
  have h := over_sub ha hb
  rw [M_fix_Sub, ov]
  by_cases c : J64 (a - b)
  · rw [if_neg (fun x => h.1 x c), if_pos c, J64_wrap c]
  · rw [if_pos (h.2 c), if_neg c]
theorem fAbs_eq {a : Int} (ha : J64 a) : M_fix_Abs a = some (ov (a.natAbs : Int)) := by
  rw [M_fix_Abs]
  by_cases c : a ≥ 0
  · rw [if_pos c, ov, if_pos (by unfold J64 at *; omega)]
    congr 2; omega
  · rw [if_neg c, M_fix_Neg, fSub_eq (by unfold J64; omega) ha, bindS, bindS, show (0 : Int) - a = (a.natAbs : Int) by omega]

theorem set_at {α : Type} {pre r : List α} {x y : α} {k : Nat} (h : pre.length = k) : (pre ++ x :: r).set (Int.toNat (k : Int)) y = pre ++ y :: r := by
  subst h; simp

/-- What is worked out at each place, of two vectors. -/
def zipOv (op : Int → Int → Int) (a b : List Int) : List Int × Int := if ∀ n ∈ List.zipWith op a b, J64 n then (List.zipWith op a b, 0) else ([], 2)
theorem each2 (op : Int → Int → Int) (F : Int → List Int → Option (Sum ((List Int) × Int) (List Int))) (c : Int → Option (Int × Int)) (a b : List Int)
    (hF : ∀ k out, F k out = if k < (a.length : Int) then (c k) >>= fun r3 => if 0 ≤ k ∧ k < (out.length : Int) then some (out.set (Int.toNat k) r3.1) >>= fun y4 => if r3.2 ≠ 0 then some (.inl ([], r3.2)) else F (IntKind.i64.wrap (k + 1)) y4 else none else some (.inr out))
    (hc : ∀ (k : Nat) x y t u, a.drop k = x :: t → b.drop k = y :: u → c (k : Int) = some (ov (op x y))) (hl : a.length ≤ 1000000) (he : a.length = b.length) :
    ∀ (t u : List Int) (k : Nat) (pre : List Int), a.drop k = t → b.drop k = u → pre.length = k →
      F (k : Int) (pre ++ List.replicate t.length 0) = some (if ∀ n ∈ List.zipWith op t u, J64 n then .inr (pre ++ List.zipWith op t u) else .inl ([], 2))
  | [], u, k, pre, h1, h2, h3 => by
    rw [hF, if_neg (drop_end h1)]; simp
  | x :: t, [], k, pre, h1, h2, h3 => by
    have := List.drop_eq_nil_iff.1 h2
    have := (drop_at h1).1
    omega
  | x :: t, y :: u, k, pre, h1, h2, h3 => by
    have g1 := drop_at h1
    have g2 := drop_at h2
    rw [hF, if_pos g1.1, hc k x y t u h1 h2, bindS, if_pos (by simp; omega), List.length_cons, List.replicate_succ, set_at h3, bindS, ov]
    by_cases hx : J64 (op x y)
    · rw [if_pos hx]
      simp only
      rw [if_neg (by simp), i64_s (by omega)]
      have ih := each2 op F c a b hF hc hl he t u (k + 1) (pre ++ [op x y]) g1.2.2 g2.2.2 (by simp [h3])
      simp only [List.append_assoc, List.singleton_append] at ih
      rw [ih]
      simp [hx]
    · rw [if_neg hx]
      simp [hx]

def vecP (op : Int → Int → Int) (a b : List Int) : List Int × Int := if 4096 < a.length ∨ 4096 < b.length then ([], 3) else if a.length ≠ b.length then ([], 4) else zipOv op a b
theorem pair_eq (a b : List Int) : M_vec_pair a b = some (if 4096 < a.length ∨ 4096 < b.length then 3 else if a.length ≠ b.length then 4 else 0) := by
  rw [M_vec_pair]
  by_cases h : 4096 < a.length ∨ 4096 < b.length
  · rw [if_pos h, if_pos (by split <;> omega)]
  · rw [if_neg h, if_neg (by split <;> omega)]
    by_cases he : a.length ≠ b.length
    · rw [if_pos (by omega), if_pos he]
    · rw [if_neg (by omega), if_neg he]
theorem J64_at {v : List Int} (hi : I64s v) {k : Nat} {x : Int} {t : List Int} (h : v.drop k = x :: t) : J64 x := hi x (by
  have : x ∈ v.drop k := by rw [h]; simp
  exact List.mem_of_mem_drop this)

theorem vAdd_eq {a b : List Int} (ha : I64s a) (hb : I64s b) : M_vec_Add a b = some (vecP (· + ·) a b) := by
  rw [M_vec_Add, pair_eq, bindS, vecP]
  by_cases h : 4096 < a.length ∨ 4096 < b.length
  · rw [if_pos h, if_pos h]; rfl
  by_cases he : a.length ≠ b.length
  · rw [if_neg h, if_neg h, if_pos he, if_pos he]; rfl
  rw [if_neg h, if_neg h, if_neg he, if_neg he, if_neg (by simp), M_vec_each_vec_Add_1, if_pos (by omega), bindS, Int.toNat_natCast]
  have := each2 (· + ·) (fun k out => M_vec_each_vec_Add_1_l0 a b (List.replicate a.length 0) k out) (fun k => M_vec_Add_1_c_c k a b) a b
    (fun k out => by
      show M_vec_each_vec_Add_1_l0 _ _ _ _ _ = _
      rw [M_vec_each_vec_Add_1_l0, List.length_replicate])
    (fun k x y t u h1 h2 => by
      have g1 := drop_at h1
      have g2 := drop_at h2
      show M_vec_Add_1_c_c _ _ _ = _
      rw [M_vec_Add_1_c_c, if_pos (by omega), if_pos (by omega), g1.2.1, g2.2.1, fAdd_eq (J64_at ha h1) (J64_at hb h2), bindS])
    (by omega) (by omega) a b 0 [] rfl rfl rfl
  simp only [List.nil_append] at this
  rw [show ((0 : Nat) : Int) = 0 from rfl] at this
  rw [this, bindS, zipOv]
  by_cases hz : ∀ n ∈ List.zipWith (· + ·) a b, J64 n
  · rw [if_pos hz, if_pos hz]; rfl
  · rw [if_neg hz, if_neg hz]; rfl
theorem vSub_eq {a b : List Int} (ha : I64s a) (hb : I64s b) : M_vec_Sub a b = some (vecP (· - ·) a b) := by
  rw [M_vec_Sub, pair_eq, bindS, vecP]
  by_cases h : 4096 < a.length ∨ 4096 < b.length
  · rw [if_pos h, if_pos h]; rfl
  by_cases he : a.length ≠ b.length
  · rw [if_neg h, if_neg h, if_pos he, if_pos he]; rfl
  rw [if_neg h, if_neg h, if_neg he, if_neg he, if_neg (by simp), M_vec_each_vec_Sub_1, if_pos (by omega), bindS, Int.toNat_natCast]
  have := each2 (· - ·) (fun k out => M_vec_each_vec_Sub_1_l0 a b (List.replicate a.length 0) k out) (fun k => M_vec_Sub_1_c_c k a b) a b
    (fun k out => by
      show M_vec_each_vec_Sub_1_l0 _ _ _ _ _ = _
      rw [M_vec_each_vec_Sub_1_l0, List.length_replicate])
    (fun k x y t u h1 h2 => by
      have g1 := drop_at h1
      have g2 := drop_at h2
      show M_vec_Sub_1_c_c _ _ _ = _
      rw [M_vec_Sub_1_c_c, if_pos (by omega), if_pos (by omega), g1.2.1, g2.2.1, fSub_eq (J64_at ha h1) (J64_at hb h2), bindS])
    (by omega) (by omega) a b 0 [] rfl rfl rfl
  simp only [List.nil_append] at this
  rw [show ((0 : Nat) : Int) = 0 from rfl] at this
  rw [this, bindS, zipOv]
  by_cases hz : ∀ n ∈ List.zipWith (· - ·) a b, J64 n
  · rw [if_pos hz, if_pos hz]; rfl
  · rw [if_neg hz, if_neg hz]; rfl
theorem vecP_I64s {op : Int → Int → Int} {a b : List Int} : I64s (vecP op a b).1 := by
  unfold vecP zipOv
  repeat' split
  · intro n hn; cases hn
  · intro n hn; cases hn
  · rename_i h; exact h
  · intro n hn; cases hn
theorem vecP_ok {op : Int → Int → Int} {a b : List Int} (h : (vecP op a b).2 = 0) : a.length = b.length ∧ a.length ≤ 4096 ∧ (vecP op a b).1 = List.zipWith op a b ∧ ∀ n ∈ List.zipWith op a b, J64 n := by
  unfold vecP zipOv at *
  split at h
  · simp at h
  · split at h
    · simp at h
    · rename_i h1 h2
      split at h
      · rename_i h3
        rw [if_neg h1, if_neg h2, if_pos h3]
        exact ⟨by omega, by omega, rfl, h3⟩
      · simp at h

/-- How great all are. -/
def sumA (v : List Int) : Int := (v.map fun n => (n.natAbs : Int)).sum
theorem sumA_cons (x : Int) (t : List Int) : sumA (x :: t) = (x.natAbs : Int) + sumA t := by simp [sumA]
theorem sumA_nonneg : ∀ v : List Int, 0 ≤ sumA v
  | [] => by simp [sumA]
  | x :: t => by rw [sumA_cons]; have := sumA_nonneg t; omega
theorem Size_l0 (v : List Int) (hi : I64s v) (hl : v.length ≤ 1000000) : ∀ (t : List Int) (k : Nat) (acc : Int), v.drop k = t → 0 ≤ acc → J64 acc →
    M_vec_total_vec_Size_1_l0 (v.length : Int) v (k : Int) acc = some (if J64 (acc + sumA t) then .inr (acc + sumA t) else .inl (0, 2))
  | [], k, acc, h1, h2, h3 => by
    rw [M_vec_total_vec_Size_1_l0, if_neg (drop_end h1)]
    simp [sumA, h3]
  | x :: t, k, acc, h1, h2, h3 => by
    have g1 := drop_at h1
    have hx := J64_at hi h1
    have hs := sumA_nonneg t
    rw [M_vec_total_vec_Size_1_l0, if_pos g1.1, M_vec_Size_1_c, if_pos (by omega), g1.2.1, fAbs_eq hx, bindS, bindS, ov, sumA_cons]
    by_cases ha : J64 (x.natAbs : Int)
    · rw [if_pos ha]
      simp only
      rw [if_pos trivial, fAdd_eq h3 ha, bindS, ov]
      by_cases hb : J64 (acc + (x.natAbs : Int))
      · rw [if_pos hb]
        simp only
        rw [if_neg (by simp), i64_s (by omega), Size_l0 v hi hl t (k + 1) _ g1.2.2 (by omega) hb, Int.add_assoc]
      · have hn : ¬ J64 (acc + ((x.natAbs : Int) + sumA t)) := by unfold J64 at *; omega
        rw [if_neg hb, if_neg hn]
        simp
    · have hn : ¬ J64 (acc + ((x.natAbs : Int) + sumA t)) := by unfold J64 at *; omega
      rw [if_neg ha, if_neg hn]
      simp
theorem Check_vec (v : List Int) : M_vec_Check v = some (if 4096 < v.length then 3 else 0) := by
  rw [M_vec_Check]
  by_cases h : 4096 < v.length
  · rw [if_pos (by omega), if_pos h]
  · rw [if_neg (by omega), if_neg h]
def sizeV (v : List Int) : Int × Int := if 4096 < v.length then (0, 3) else if J64 (sumA v) then (sumA v, 0) else (0, 2)
theorem vSize_eq {v : List Int} (hi : I64s v) : M_vec_Size v = some (sizeV v) := by
  rw [M_vec_Size, Check_vec, bindS, sizeV]
  by_cases h : 4096 < v.length
  · rw [if_pos h, if_pos h]; rfl
  rw [if_neg h, if_neg h, if_neg (by simp), M_vec_total_vec_Size_1]
  have := Size_l0 v hi (by omega) v 0 0 rfl (by omega) (by unfold J64; omega)
  rw [Int.zero_add] at this
  rw [show ((0 : Nat) : Int) = 0 from rfl] at this
  rw [this]
  by_cases hs : J64 (sumA v)
  · rw [if_pos hs, if_pos hs]; rfl
  · rw [if_neg hs, if_neg hs]; rfl

/-- How great the greatest is. -/
def mostG : Int → List Int → Int
  | m, [] => m
  | m, x :: t => mostG (if (x.natAbs : Int) > m then (x.natAbs : Int) else m) t
def mostP (v : List Int) : Int := mostG 0 v
theorem mostG_le : ∀ (v : List Int) (m : Int), m ≤ mostG m v ∧ ∀ n ∈ v, (n.natAbs : Int) ≤ mostG m v
  | [], m => by simp [mostG]
  | x :: t, m => by
    have ih := mostG_le t (if (x.natAbs : Int) > m then (x.natAbs : Int) else m)
    rw [mostG]
    refine ⟨?_, ?_⟩
    · have := ih.1; split at this <;> omega
    · intro n hn
      rcases List.mem_cons.1 hn with rfl | h
      · have := ih.1; split at this <;> omega
      · exact ih.2 n h
theorem mostG_in : ∀ (v : List Int) (m : Int), mostG m v = m ∨ ∃ n ∈ v, mostG m v = (n.natAbs : Int)
  | [], m => .inl rfl
  | x :: t, m => by
    rw [mostG]
    rcases mostG_in t (if (x.natAbs : Int) > m then (x.natAbs : Int) else m) with h | ⟨n, hn, h⟩
    · rw [h]
      split
      · exact .inr ⟨x, by simp, rfl⟩
      · exact .inl rfl
    · exact .inr ⟨n, by simp [hn], h⟩
theorem mostP_le {v : List Int} {n : Int} (h : n ∈ v) : (n.natAbs : Int) ≤ mostP v := (mostG_le v 0).2 n h
theorem mostP_J {v : List Int} (h : ∀ n ∈ v, J64 (n.natAbs : Int)) : J64 (mostP v) := by
  rcases mostG_in v 0 with e | ⟨n, hn, e⟩
  · unfold mostP; rw [e]; unfold J64; omega
  · unfold mostP; rw [e]; exact h n hn
theorem Most_l0 (v : List Int) (hi : I64s v) (hl : v.length ≤ 1000000) : ∀ (t : List Int) (k : Nat) (m : Int), v.drop k = t →
    M_vec_Most_l0 v (k : Int) m = some (if ∀ n ∈ t, J64 (n.natAbs : Int) then .inr (mostG m t) else .inl (0, 2))
  | [], k, m, h1 => by
    rw [M_vec_Most_l0, if_neg (drop_end h1)]; simp [mostG]
  | x :: t, k, m, h1 => by
    have g1 := drop_at h1
    rw [M_vec_Most_l0, if_pos g1.1, if_pos (by omega), g1.2.1, fAbs_eq (J64_at hi h1), bindS, ov]
    by_cases ha : J64 (x.natAbs : Int)
    · rw [if_pos ha]
      simp only
      rw [if_neg (by simp), i64_s (by omega), Most_l0 v hi hl t (k + 1) _ g1.2.2, mostG]
      simp [ha]
    · rw [if_neg ha]; simp [ha]
def mostV (v : List Int) : Int × Int := if 4096 < v.length then (0, 3) else if ∀ n ∈ v, J64 (n.natAbs : Int) then (mostP v, 0) else (0, 2)
theorem vMost_eq {v : List Int} (hi : I64s v) : M_vec_Most v = some (mostV v) := by
  rw [M_vec_Most, Check_vec, bindS, mostV]
  by_cases h : 4096 < v.length
  · rw [if_pos h, if_pos h]; rfl
  rw [if_neg h, if_neg h, if_neg (by simp)]
  have := Most_l0 v hi (by omega) v 0 0 rfl
  rw [show ((0 : Nat) : Int) = 0 from rfl] at this
  rw [this]
  by_cases hs : ∀ n ∈ v, J64 (n.natAbs : Int)
  · rw [if_pos hs, if_pos hs]; rfl
  · rw [if_neg hs, if_neg hs]; rfl

/-- How many steps there are. -/
def stepsP (w : Int) : Nat := 2 ^ w.toNat - 1
theorem Steps_eq (w : Int) : M_quant_Steps w = some (if 1 ≤ w ∧ w ≤ 8 then ((stepsP w : Int), 0) else (0, 1)) := by
  rw [M_quant_Steps, orB]
  by_cases h : 1 ≤ w ∧ w ≤ 8
  · rw [if_neg (by simp; omega), if_pos (by omega), if_pos h]
    have : w = 1 ∨ w = 2 ∨ w = 3 ∨ w = 4 ∨ w = 5 ∨ w = 6 ∨ w = 7 ∨ w = 8 := by omega
    rcases this with rfl | rfl | rfl | rfl | rfl | rfl | rfl | rfl <;> rfl
  · rw [if_pos (by simp; omega), if_neg h]
theorem stepsP_in {w : Int} (h : 1 ≤ w ∧ w ≤ 8) : 1 ≤ stepsP w ∧ stepsP w ≤ 255 := by
  have : w = 1 ∨ w = 2 ∨ w = 3 ∨ w = 4 ∨ w = 5 ∨ w = 6 ∨ w = 7 ∨ w = 8 := by omega
  rcases this with rfl | rfl | rfl | rfl | rfl | rfl | rfl | rfl <;> decide
theorem qsize_eq {n : Int} (h : J64 n) : M_quant_size n = some (n.natAbs : Int) := by
  rw [M_quant_size, ← sizeP_abs h, sizeP]
  split <;> rfl
def levelP (n m w : Int) : Int × Int × Int :=
  if (1 ≤ w ∧ w ≤ 8) ∧ 0 ≤ m ∧ (n.natAbs : Int) ≤ m then (if m = 0 then (0, 0, 0) else (((n.natAbs * stepsP w / m.toNat : Nat) : Int), ((n.natAbs * stepsP w % m.toNat : Nat) : Int), 0)) else (0, 0, 1)
theorem Level_eq {n m w : Int} (hn : J64 n) (hm : J64 m) : M_quant_Level n m w = some (levelP n m w) := by
  rw [M_quant_Level, Steps_eq, bindS, orB, levelP]
  by_cases hw : 1 ≤ w ∧ w ≤ 8
  · rw [if_pos hw]
    simp only
    by_cases h0 : m < 0
    · rw [if_pos (by simp [h0]), bindS, if_pos rfl, if_neg (by omega)]
    rw [if_neg (by simp [h0]), qsize_eq hn, bindS, bindS, u64_in m (by unfold J64 at hm; omega)]
    by_cases hc : (n.natAbs : Int) ≤ m
    · rw [if_neg (by simp; omega), if_pos (show (1 ≤ w ∧ w ≤ 8) ∧ 0 ≤ m ∧ (n.natAbs : Int) ≤ m from ⟨hw, by omega, hc⟩)]
      by_cases hz : m = 0
      · rw [if_pos hz, if_pos hz]
      rw [if_neg hz, if_neg hz, bindS]
      obtain ⟨k, rfl⟩ : ∃ k : Nat, m = (k : Int) := ⟨m.toNat, by omega⟩
      have hst := stepsP_in hw
      unfold J64 at hm hn
      have hlt : n.natAbs * stepsP w / 18446744073709551616 < k := by
        have h1 : n.natAbs * stepsP w ≤ n.natAbs * 255 := Nat.mul_le_mul_left _ hst.2
        omega
      obtain ⟨p, q, e1, e2⟩ := @MulDiv n.natAbs (stepsP w) k (by omega) (by omega) (by omega) hlt
      rw [e1, bindS]
      simp only
      rw [e2, bindS, Int.toNat_natCast]
    · rw [if_pos (by simp; omega), if_neg (by omega)]
  · rw [if_neg hw]
    simp only
    rw [if_pos (by simp), bindS, if_pos rfl, if_neg (by omega)]
theorem levelP_in {n m w : Int} (h : (levelP n m w).2.2 = 0) : 0 ≤ (levelP n m w).1 ∧ 0 ≤ (levelP n m w).2.1 ∧ (levelP n m w).1 ≤ (stepsP w : Int) ∧ (0 < (levelP n m w).2.1 → (levelP n m w).1 < (stepsP w : Int)) ∧ ((levelP n m w).2.1 < m ∨ m = 0 ∧ (levelP n m w).2.1 = 0) := by
  unfold levelP at *
  split at h
  · rename_i hc
    rw [if_pos hc]
    split
    · simp; omega
    · rename_i hz
      obtain ⟨k, rfl⟩ : ∃ k : Nat, m = (k : Int) := ⟨m.toNat, by omega⟩
      simp only [Int.toNat_natCast]
      have hk : 0 < k := by omega
      have hle : n.natAbs * stepsP w ≤ k * stepsP w := Nat.mul_le_mul_right _ (by omega)
      have h1 : n.natAbs * stepsP w / k ≤ stepsP w := Nat.div_le_of_le_mul hle
      have h2 := Nat.mod_lt (n.natAbs * stepsP w) hk
      have h3 := Nat.div_add_mod (n.natAbs * stepsP w) k
      refine ⟨Int.natCast_nonneg _, Int.natCast_nonneg _, Int.ofNat_le.2 h1, fun hp => ?_, .inl (Int.ofNat_lt.2 h2)⟩
      rcases Nat.lt_or_ge (n.natAbs * stepsP w / k) (stepsP w) with h | h
      · exact Int.ofNat_lt.2 h
      · exfalso
        have hp := Int.natCast_pos.1 hp
        have : k * stepsP w ≤ k * (n.natAbs * stepsP w / k) := Nat.mul_le_mul_left _ h
        omega
  · simp at h
def valueP (l m w : Int) : Int × Int := if (1 ≤ w ∧ w ≤ 8) ∧ 0 ≤ m ∧ l ≤ (stepsP w : Int) then (((m.toNat * l.toNat / stepsP w : Nat) : Int), 0) else (0, 1)
theorem val_le {l m w : Int} (hw : 1 ≤ w ∧ w ≤ 8) (hm : 0 ≤ m) (hl : l ≤ (stepsP w : Int)) : ((m.toNat * l.toNat / stepsP w : Nat) : Int) ≤ m := by
  have h1 : m.toNat * l.toNat ≤ m.toNat * stepsP w := Nat.mul_le_mul_left _ (by omega)
  rw [Nat.mul_comm m.toNat (stepsP w)] at h1
  have := Nat.div_le_of_le_mul h1
  omega
theorem Value_eq {l m w : Int} (hl : 0 ≤ l ∧ l ≤ 18446744073709551615) (hm : J64 m) : M_quant_Value l m w = some (valueP l m w) := by
  rw [M_quant_Value, Steps_eq, bindS, orB, orB, valueP]
  by_cases hw : 1 ≤ w ∧ w ≤ 8
  · rw [if_pos hw]
    simp only
    by_cases h0 : 0 ≤ m ∧ l ≤ (stepsP w : Int)
    · rw [if_neg (by simp; omega), if_pos ⟨hw, h0⟩, u64_in m (by unfold J64 at hm; omega)]
      have hv := val_le hw h0.1 h0.2
      obtain ⟨k, rfl⟩ : ∃ k : Nat, m = (k : Int) := ⟨m.toNat, by omega⟩
      obtain ⟨j, rfl⟩ : ∃ j : Nat, l = (j : Int) := ⟨l.toNat, by omega⟩
      have hst := stepsP_in hw
      unfold J64 at hm
      have hlt : k * j / 18446744073709551616 < stepsP w := by
        have h1 : k * j ≤ 9223372036854775807 * j := Nat.mul_le_mul_right _ (by omega)
        omega
      obtain ⟨p, q, e1, e2⟩ := @MulDiv k j (stepsP w) (by omega) (by omega) (by omega) hlt
      rw [e1, bindS]
      simp only
      simp only [Int.toNat_natCast] at hv ⊢
      generalize k * j / stepsP w = z at hv e2 ⊢
      rw [e2, bindS]
      simp only
      rw [i64_in _ (by omega)]
    · rw [if_pos (by simp; omega), if_neg (fun h => h0 h.2)]
  · rw [if_neg hw]
    simp only
    rw [if_pos (by simp), if_neg (fun h => hw h.1)]
end Go.Proofs.YtdgdgfckcnjpfaaGreat.Abs
