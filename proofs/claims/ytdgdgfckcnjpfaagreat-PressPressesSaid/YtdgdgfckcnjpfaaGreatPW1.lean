/- Plain facts: the document's sums, sizes, levels, signs. Conditions: none. -/
import Derived.Test.YtdgdgfckcnjpfaaGreatPV5
import Derived.Test.YtdgdgfckcnjpfaaGreatPR1
namespace Go.Proofs.YtdgdgfckcnjpfaaGreat.Abs
open Go Go.RowKit Go.IntWalk
set_option linter.unusedVariables false
set_option linter.unusedSimpArgs false
set_option linter.unnecessarySimpa false
set_option maxRecDepth 100000

theorem rAdd_eq {a b : Int} (ha : J64 a) (hb : J64 b) : M_thrumref01_Add a b = some (ov (a + b)) := by
  unfold J64 at ha hb
  rw [M_thrumref01_Add, andB, ov]
  by_cases p : b > 0
  · rw [i64_in (9223372036854775807 - b) (by omega)]
    by_cases q : a > 9223372036854775807 - b
    · rw [if_pos (by simp [p, q]), if_neg (by unfold J64; omega)]
    · have n : ¬ b < 0 := by omega
      rw [if_neg (by simp [q]), if_neg n, if_pos (by unfold J64; omega), i64_in _ (by omega)]
  · rw [if_neg (by simp [p])]
    by_cases n : b < 0
    · rw [if_pos n, i64_in (-9223372036854775808 - b) (by omega)]
      by_cases q : a < -9223372036854775808 - b
      · rw [if_pos q, if_neg (by unfold J64; omega)]
      · rw [if_neg q, if_pos (by unfold J64; omega), i64_in _ (by omega)]
    · rw [if_neg n, if_pos (by unfold J64; omega), i64_in _ (by omega)]
theorem rSub_eq {a b : Int} (ha : J64 a) (hb : J64 b) : M_thrumref01_Sub a b = some (ov (a - b)) := by
  unfold J64 at ha hb
  rw [M_thrumref01_Sub, andB, ov]
  by_cases p : b < 0
  · rw [i64_in (9223372036854775807 + b) (by omega)]
    by_cases q : a > 9223372036854775807 + b
    · rw [if_pos (by simp [p, q]), if_neg (by unfold J64; omega)]
    · have n : ¬ b > 0 := by omega
      rw [if_neg (by simp [q]), if_neg n, if_pos (by unfold J64; omega), i64_in _ (by omega)]
  · rw [if_neg (by simp [p])]
    by_cases n : b > 0
    · rw [if_pos n, i64_in (-9223372036854775808 + b) (by omega)]
      by_cases q : a < -9223372036854775808 + b
      · rw [if_pos q, if_neg (by unfold J64; omega)]
      · rw [if_neg q, if_pos (by unfold J64; omega), i64_in _ (by omega)]
    · rw [if_neg n, if_pos (by unfold J64; omega), i64_in _ (by omega)]
theorem rAbs_eq {a : Int} (ha : J64 a) : M_thrumref01_Abs a = some (ov (a.natAbs : Int)) := by
  rw [M_thrumref01_Abs]
  by_cases c : a < 0
  · rw [if_pos c, M_thrumref01_Neg, rSub_eq (by unfold J64; omega) ha, bindS, bindS, show (0 : Int) - a = (a.natAbs : Int) by omega]
  · rw [if_neg c, ov, if_pos (by unfold J64 at *; omega)]
    congr 2; omega
theorem eachA (op : Int → Int → Int) (F : Int → List Int → Option (Sum ((List Int) × Int) (List Int))) (c : Int → Int → Option (Int × Int)) (a b : List Int)
    (hF : ∀ k acc, F k acc = if k < (a.length : Int) then if 0 ≤ k ∧ k < (a.length : Int) then if 0 ≤ k ∧ k < (b.length : Int) then (c (at' a k) (at' b k)) >>= fun r2 => if r2.2 ≠ 0 then some (.inl ([], r2.2)) else if room 8 (acc ++ [r2.1]).length then F (IntKind.i64.wrap (k + 1)) (acc ++ [r2.1]) else none else none else none else some (.inr acc))
    (ha : I64s a) (hb : I64s b) (hc : ∀ x y, J64 x → J64 y → c x y = some (ov (op x y))) (hl : a.length ≤ 1000000) (he : a.length = b.length) :
    ∀ (t u : List Int) (k : Nat) (acc : List Int), a.drop k = t → b.drop k = u → acc.length ≤ k → F (k : Int) acc = some (if ∀ n ∈ List.zipWith op t u, J64 n then .inr (acc ++ List.zipWith op t u) else .inl ([], 2))
  | [], u, k, acc, h1, h2, h3 => by rw [hF, if_neg (drop_end h1)]; simp
  | x :: t, [], k, acc, h1, h2, h3 => by
    have := List.drop_eq_nil_iff.1 h2
    have := (drop_at h1).1
    omega
  | x :: t, y :: u, k, acc, h1, h2, h3 => by
    have g1 := drop_at h1
    have g2 := drop_at h2
    rw [hF, if_pos g1.1, if_pos (by omega), if_pos (by omega), g1.2.1, g2.2.1, hc x y (J64_at ha h1) (J64_at hb h2), bindS, ov]
    by_cases hx : J64 (op x y)
    · rw [if_pos hx]
      simp only
      rw [if_neg (by simp), if_pos (room8 (by simp; omega)), i64_s (by omega), eachA op F c a b hF ha hb hc hl he t u (k + 1) _ g1.2.2 g2.2.2 (by simp; omega)]
      simp [hx]
    · rw [if_neg hx]; simp [hx]
theorem two_eq (a b : List Int) : M_thrumref02_two a b = some (if 4096 < a.length ∨ 4096 < b.length then 3 else if a.length ≠ b.length then 4 else 0) := by
  rw [M_thrumref02_two, orB]
  by_cases h : 4096 < a.length ∨ 4096 < b.length
  · rw [if_pos h, if_pos (by simp; omega)]
  · rw [if_neg h, if_neg (by simp; omega)]
    by_cases he : a.length ≠ b.length
    · rw [if_pos (by omega), if_pos he]
    · rw [if_neg (by omega), if_neg he]
theorem r2Add_eq {a b : List Int} (ha : I64s a) (hb : I64s b) : M_thrumref02_Add a b = some (vecP (· + ·) a b) := by
  rw [M_thrumref02_Add, two_eq, bindS, vecP]
  by_cases h : 4096 < a.length ∨ 4096 < b.length
  · rw [if_pos h, if_pos h]; rfl
  by_cases he : a.length ≠ b.length
  · rw [if_neg h, if_neg h, if_pos he, if_pos he]; rfl
  rw [if_neg h, if_neg h, if_neg he, if_neg he, if_neg (by simp)]
  have := eachA (· + ·) (fun k acc => M_thrumref02_Add_l0 a b k acc) M_thrumref01_Add a b (fun k acc => by show M_thrumref02_Add_l0 _ _ _ _ = _; rw [M_thrumref02_Add_l0]) ha hb (fun x y hx hy => rAdd_eq hx hy) (by omega) (by omega) a b 0 [] rfl rfl (by simp)
  simp only [List.nil_append] at this
  rw [show ((0 : Nat) : Int) = 0 from rfl] at this
  rw [this, bindS, zipOv]
  by_cases hz : ∀ n ∈ List.zipWith (· + ·) a b, J64 n
  · rw [if_pos hz, if_pos hz]
  · rw [if_neg hz, if_neg hz]
theorem r2Sub_eq {a b : List Int} (ha : I64s a) (hb : I64s b) : M_thrumref02_Sub a b = some (vecP (· - ·) a b) := by
  rw [M_thrumref02_Sub, two_eq, bindS, vecP]
  by_cases h : 4096 < a.length ∨ 4096 < b.length
  · rw [if_pos h, if_pos h]; rfl
  by_cases he : a.length ≠ b.length
  · rw [if_neg h, if_neg h, if_pos he, if_pos he]; rfl
  rw [if_neg h, if_neg h, if_neg he, if_neg he, if_neg (by simp)]
  have := eachA (· - ·) (fun k acc => M_thrumref02_Sub_l0 a b k acc) M_thrumref01_Sub a b (fun k acc => by show M_thrumref02_Sub_l0 _ _ _ _ = _; rw [M_thrumref02_Sub_l0]) ha hb (fun x y hx hy => rSub_eq hx hy) (by omega) (by omega) a b 0 [] rfl rfl (by simp)
  simp only [List.nil_append] at this
  rw [show ((0 : Nat) : Int) = 0 from rfl] at this
  rw [this, bindS, zipOv]
  by_cases hz : ∀ n ∈ List.zipWith (· - ·) a b, J64 n
  · rw [if_pos hz, if_pos hz]
  · rw [if_neg hz, if_neg hz]
theorem r2Size_l0 (v : List Int) (hi : I64s v) (hl : v.length ≤ 1000000) : ∀ (t : List Int) (k : Nat) (acc : Int), v.drop k = t → 0 ≤ acc → J64 acc →
    M_thrumref02_Size_l0 v (k : Int) acc = some (if J64 (acc + sumA t) then .inr (acc + sumA t) else .inl (0, 2))
  | [], k, acc, h1, h2, h3 => by
    rw [M_thrumref02_Size_l0, if_neg (drop_end h1)]
    simp [sumA, h3]
  | x :: t, k, acc, h1, h2, h3 => by
    have g1 := drop_at h1
    have hx := J64_at hi h1
    have hs := sumA_nonneg t
    rw [M_thrumref02_Size_l0, if_pos g1.1, if_pos (by omega), g1.2.1, rAbs_eq hx, bindS, ov, sumA_cons]
    by_cases ha : J64 (x.natAbs : Int)
    · rw [if_pos ha]
      simp only
      rw [if_neg (by simp), rAdd_eq h3 ha, bindS, ov]
      by_cases hb : J64 (acc + (x.natAbs : Int))
      · rw [if_pos hb]
        simp only
        rw [if_neg (by simp), i64_s (by omega), r2Size_l0 v hi hl t (k + 1) _ g1.2.2 (by omega) hb, Int.add_assoc]
      · have hn : ¬ J64 (acc + ((x.natAbs : Int) + sumA t)) := by unfold J64 at *; omega
        rw [if_neg hb, if_neg hn]
        simp
    · have hn : ¬ J64 (acc + ((x.natAbs : Int) + sumA t)) := by unfold J64 at *; omega
      rw [if_neg ha, if_neg hn]
      simp
theorem r2Size_eq {v : List Int} (hi : I64s v) : M_thrumref02_Size v = some (sizeV v) := by
  rw [M_thrumref02_Size, sizeV]
  by_cases h : 4096 < v.length
  · rw [if_pos (by omega), if_pos h]
  rw [if_neg (by omega), if_neg h]
  have := r2Size_l0 v hi (by omega) v 0 0 rfl (by omega) (by unfold J64; omega)
  rw [Int.zero_add] at this
  rw [show ((0 : Nat) : Int) = 0 from rfl] at this
  rw [this]
  by_cases hs : J64 (sumA v)
  · rw [if_pos hs, if_pos hs]; rfl
  · rw [if_neg hs, if_neg hs]; rfl
theorem r2Most_l0 (v : List Int) (hi : I64s v) (hl : v.length ≤ 1000000) : ∀ (t : List Int) (k : Nat) (m : Int), v.drop k = t →
    M_thrumref02_Most_l0 v (k : Int) m = some (if ∀ n ∈ t, J64 (n.natAbs : Int) then .inr (mostG m t) else .inl (0, 2))
  | [], k, m, h1 => by
    rw [M_thrumref02_Most_l0, if_neg (drop_end h1)]; simp [mostG]
  | x :: t, k, m, h1 => by
    have g1 := drop_at h1
    rw [M_thrumref02_Most_l0, if_pos g1.1, if_pos (by omega), g1.2.1, rAbs_eq (J64_at hi h1), bindS, ov]
    by_cases ha : J64 (x.natAbs : Int)
    · rw [if_pos ha]
      simp only
      rw [if_neg (by simp), i64_s (by omega), r2Most_l0 v hi hl t (k + 1) _ g1.2.2, mostG]
      simp [ha]
    · rw [if_neg ha]; simp [ha]
theorem r2Most_eq {v : List Int} (hi : I64s v) : M_thrumref02_Most v = some (mostV v) := by
  rw [M_thrumref02_Most, mostV]
  by_cases h : 4096 < v.length
  · rw [if_pos (by omega), if_pos h]
  rw [if_neg (by omega), if_neg h]
  have := r2Most_l0 v hi (by omega) v 0 0 rfl
  rw [show ((0 : Nat) : Int) = 0 from rfl] at this
  rw [this]
  by_cases hs : ∀ n ∈ v, J64 (n.natAbs : Int)
  · rw [if_pos hs, if_pos hs]; rfl
  · rw [if_neg hs, if_neg hs]; rfl
theorem r10Steps_eq (w : Int) : M_thrumref10_Steps w = some (if 1 ≤ w ∧ w ≤ 8 then ((stepsP w : Int), 0) else (0, 1)) := by
  rw [M_thrumref10_Steps, orB]
  by_cases h : 1 ≤ w ∧ w ≤ 8
  · rw [if_neg (by simp; omega), if_pos (by omega), if_pos h]
    have : w = 1 ∨ w = 2 ∨ w = 3 ∨ w = 4 ∨ w = 5 ∨ w = 6 ∨ w = 7 ∨ w = 8 := by omega
    rcases this with rfl | rfl | rfl | rfl | rfl | rfl | rfl | rfl <;> rfl
  · rw [if_pos (by simp; omega), if_neg h]
theorem r9Size_eq {n : Int} (h : J64 n) : M_thrumref09_Size n = some (n.natAbs : Int) := by rw [refSize_eq h, sizeP_abs h]
theorem div_more {n s m : Nat} (hs : s ≤ m) (hm : 0 < m) : if n % m + s ≥ m then (n + s) / m = n / m + 1 ∧ (n + s) % m = n % m + s - m else (n + s) / m = n / m ∧ (n + s) % m = n % m + s := by
  have h1 := Nat.div_add_mod n m
  have h2 := Nat.mod_lt n hm
  split
  · refine (Nat.div_mod_unique hm).2 ⟨?_, by omega⟩
    rw [Nat.mul_add]; omega
  · exact (Nat.div_mod_unique hm).2 ⟨by omega, by omega⟩
theorem rLevel_l0 {n m : Int} {s k T : Nat} (hn : J64 n) (hs : n.natAbs = s) (hk : m = (k : Int)) (hm : J64 m) (h0 : 0 < k) (hle : s ≤ k) (hT : T ≤ 255) : ∀ (j i : Nat), i + j = T →
    M_thrumref10_Level_l0 n m ((T : Int), 0) (i : Int) ((i * s % k : Nat) : Int) ((i * s / k : Nat) : Int) = some (((T * s % k : Nat) : Int), ((T * s / k : Nat) : Int))
  | 0, i, h => by
    rw [M_thrumref10_Level_l0, if_neg (by simp only; omega), show i = T by omega]
  | j + 1, i, h => by
    have hm' := hm
    unfold J64 at hm
    have hlt := Nat.mod_lt (i * s) h0
    have hd : i * s / k ≤ 255 := by
      refine Nat.le_trans (Nat.div_le_of_le_mul ?_) (show i ≤ 255 by omega)
      rw [Nat.mul_comm k i]; exact Nat.mul_le_mul_left _ hle
    have hq := @div_more (i * s) s k hle h0
    have ih := rLevel_l0 hn hs hk hm' h0 hle hT j (i + 1) (by omega)
    rw [Nat.succ_mul] at ih
    rw [M_thrumref10_Level_l0, if_pos (by simp only; omega), r9Size_eq hn, bindS, hs, u64_in (((i * s % k : Nat) : Int) + (s : Int)) (by omega), u64_in m (by omega), hk, u64_s (by omega)]
    by_cases hc : i * s % k + s ≥ k
    · rw [if_pos hc] at hq
      rw [if_pos (by omega), u64_in (((i * s % k : Nat) : Int) + (s : Int) - (k : Int)) (by omega), bindS, u64_s (by omega), show ((i * s % k : Nat) : Int) + (s : Int) - (k : Int) = ((i * s % k + s - k : Nat) : Int) by omega, ← hq.1, ← hq.2, ← hk]
      exact ih
    · rw [if_neg hc] at hq
      rw [if_neg (by omega), ← Int.natCast_add, ← hq.2]
      rw [hq.1] at ih
      rw [← hk]
      exact ih
theorem rLevel_eq {n m w : Int} (hn : J64 n) (hm : J64 m) : M_thrumref10_Level n m w = some (levelP n m w) := by
  rw [M_thrumref10_Level, r10Steps_eq, bindS, orB, levelP]
  by_cases hw : 1 ≤ w ∧ w ≤ 8
  · rw [if_pos hw]
    simp only
    by_cases h0 : m < 0
    · rw [if_pos (by simp [h0]), bindS, if_pos rfl, if_neg (by omega)]
    rw [if_neg (by simp [h0]), r9Size_eq hn, bindS, bindS, u64_in m (by unfold J64 at hm; omega)]
    by_cases hc : (n.natAbs : Int) ≤ m
    · rw [if_neg (by simp; omega), if_pos (show (1 ≤ w ∧ w ≤ 8) ∧ 0 ≤ m ∧ (n.natAbs : Int) ≤ m from ⟨hw, by omega, hc⟩)]
      by_cases hz : m = 0
      · rw [if_pos hz, if_pos hz]
      rw [if_neg hz, if_neg hz]
      obtain ⟨k, hk⟩ : ∃ k : Nat, m = (k : Int) := ⟨m.toNat, by omega⟩
      have hst := stepsP_in hw
      have hL := rLevel_l0 (n := n) (m := m) (s := n.natAbs) (k := k) (T := stepsP w) hn rfl hk hm (by omega) (by omega) hst.2 (stepsP w) 0 (by omega)
      simp only [Nat.zero_mul, Nat.zero_mod, Nat.zero_div] at hL
      rw [show ((0 : Nat) : Int) = 0 from rfl] at hL
      rw [hL, bindS, hk, Int.toNat_natCast, Nat.mul_comm n.natAbs]
    · rw [if_pos (by simp; omega), if_neg (by omega)]
  · rw [if_neg hw]
    simp only
    rw [if_pos (by simp), bindS, if_pos rfl, if_neg (by omega)]
theorem r8At_l0 (l : List Int) (hl : l.length ≤ 1000000) : ∀ (t : List Int) (k : Nat) (a : Int), l.drop k = t → M_thrumref08_At_l0 l (k : Int) a = some (t.foldl stirP a)
  | [], k, a, h1 => by rw [M_thrumref08_At_l0, if_neg (drop_end h1)]; rfl
  | x :: t, k, a, h1 => by
    have g1 := drop_at h1
    rw [M_thrumref08_At_l0, if_pos g1.1, if_pos (by omega), g1.2.1, bindS, i64_s (by omega)]
    exact r8At_l0 l hl t (k + 1) _ g1.2.2
theorem r8Below_eq {q seed : Int} {l : List Int} (hl : l.length ≤ 1000000) (hq : 0 < q) : M_thrumref08_Below q seed l = some (Int.tmod (drawP seed l) q, 0) := by
  have := r8At_l0 l hl l 0 seed rfl
  rw [show ((0 : Nat) : Int) = 0 from rfl] at this
  rw [M_thrumref08_Below, if_neg (by omega), M_thrumref08_At, this, bindS, bindS, if_pos (by omega)]
  rfl
theorem r10Press_l0 (v : List Int) (w seed : Int) (n : List Int) (m : Int) (hi : I64s v) (hl : v.length ≤ 4096) (hn : n.length ≤ 100000) (hw : 1 ≤ w ∧ w ≤ 8) (hm : J64 m) (hmx : ∀ x ∈ v, (x.natAbs : Int) ≤ m) :
    ∀ (t : List Int) (k : Nat) (p1 : List Int) (p2 : List Bool), v.drop k = t → p1.length ≤ k → p2.length ≤ k →
      M_thrumref10_Press_l0 v w seed n (m, 0) (k : Int) p1 p2 = some (p1 ++ levsG seed n m w k t, p2 ++ t.map fun x => decide (x < 0))
  | [], k, p1, p2, h1, h2, h3 => by rw [M_thrumref10_Press_l0, if_neg (drop_end h1)]; simp [levsG]
  | x :: t, k, p1, p2, h1, h2, h3 => by
    have g1 := drop_at h1
    have hx : x ∈ v := by
      have : x ∈ v.drop k := by rw [h1]; simp
      exact List.mem_of_mem_drop this
    have hle := hmx x hx
    have hok := levelP_ok (x := x) (m := m) hw hle
    have hin := levelP_in hok
    have hst := stepsP_in hw
    rw [M_thrumref10_Press_l0, if_pos g1.1, if_pos (by omega), g1.2.1]
    simp only
    rw [rLevel_eq (hi x hx) hm, bindS]
    have hj : ((if (levelP x m w).2.1 > 0 then if room 8 (n : List Int).length then if room 8 (n ++ [(k : Int)]).length then (M_thrumref08_Below (IntKind.u64.wrap m) seed (n ++ [(k : Int)])) >>= fun r5 => if r5.1 < (levelP x m w).2.1 then some (IntKind.u64.wrap ((levelP x m w).1 + 1)) else some (levelP x m w).1 else none else none else some (levelP x m w).1) : Option Int) = some (levQ seed n m w k x) := by
      unfold levQ
      by_cases hp : 0 < (levelP x m w).2.1
      · have hlt : (levelP x m w).2.1 < m := by rcases hin.2.2.2.2 with h | h <;> omega
        have := hin.2.2.2.1 hp
        rw [if_pos hp, if_pos (room8 (by omega)), if_pos (room8 (by simp; omega)), u64_in m (by unfold J64 at hm; omega), r8Below_eq (by simp; omega) (by omega), bindS]
        simp only
        rw [u64_in _ (by omega)]
        by_cases hc : Int.tmod (drawP seed (n ++ [(k : Int)])) m < (levelP x m w).2.1
        · rw [if_pos hc, if_pos ⟨hp, hc⟩]
        · rw [if_neg hc, if_neg (fun h => hc h.2)]
      · rw [if_neg hp, if_neg (fun h => hp h.1)]
    rw [hj, bindS, if_pos (room8 (by simp; omega)), if_pos (room1 (by simp; omega)), bindS, i64_s (by omega), r10Press_l0 v w seed n m hi hl hn hw hm hmx t (k + 1) _ _ g1.2.2 (by simp; omega) (by simp; omega)]
    simp [levsG]
theorem r10Press_eq {v : List Int} {w seed : Int} {n : List Int} (hi : I64s v) (hn : n.length ≤ 100000) : M_thrumref10_Press v w seed n = some (qpressP v w seed n) := by
  rw [M_thrumref10_Press, r10Steps_eq, bindS, orB, qpressP]
  by_cases hw : 1 ≤ w ∧ w ≤ 8
  · by_cases h0 : v.length = 0
    · rw [if_pos hw, if_pos (by simp [h0]), if_pos (.inr h0)]
    have hnn : ¬ (¬ (1 ≤ w ∧ w ≤ 8) ∨ v.length = 0) := by omega
    have hc : (decide (((stepsP w : Int), (0 : Int)).2 ≠ 0) || ((v.length : Int) == 0)) = false := by
      have hv : v ≠ [] := by rintro rfl; exact h0 rfl
      simp [hv]
    rw [if_neg hnn, if_pos hw, hc, if_neg Bool.false_ne_true, r2Most_eq hi, bindS]
    by_cases he : (mostV v).2 ≠ 0
    · rw [if_pos he, if_pos he]
    rw [if_neg he, if_neg he]
    obtain ⟨a1, a2, a3⟩ := mostV_ok (v := v) (by simpa using he)
    have hmv : mostV v = (mostP v, 0) := by
      have : (mostV v).2 = 0 := by simpa using he
      rw [← a2, ← this]
    have hL := r10Press_l0 v w seed n (mostP v) hi a1 hn hw (mostP_J a3) (fun x hx => mostP_le hx) v 0 [] [] rfl (by simp) (by simp)
    rw [show ((0 : Nat) : Int) = 0 from rfl] at hL
    simp only [List.nil_append] at hL
    rw [hmv, hL, bindS]
  · rw [if_neg hw, if_pos (by simp), if_pos (.inl hw)]
theorem r11Mean_eq {v : List Int} (hi : I64s v) : M_thrumref11_Mean v = some (meanV v) := by
  rw [M_thrumref11_Mean, meanV]
  by_cases h0 : v.length = 0
  · rw [if_pos (by omega), if_pos h0]
  rw [if_neg (by omega), if_neg h0, r2Size_eq hi, bindS]
  by_cases he : (sizeV v).2 ≠ 0
  · rw [if_pos he]
    have : (sizeV v).1 = 0 := by
      unfold sizeV at *
      repeat' split at he
      all_goals first
        | exact absurd rfl he
        | skip
      · rename_i h; rw [if_pos h]
      · rename_i h1 h2; rw [if_neg h1, if_neg h2]
    rw [this, Int.zero_tdiv]
  · have := meanV_in v
    rw [meanV, if_neg h0] at this
    rw [if_neg he, if_pos (by omega), i64_in _ (by simp only at this; omega)]
    congr 2
    exact (by simpa using he : (sizeV v).2 = 0).symm
theorem r11Press_l0 (v : List Int) (r1 : Int × Int) (hl : v.length ≤ 1000000) : ∀ (t : List Int) (k : Nat) (acc : List Bool), v.drop k = t → acc.length ≤ k → M_thrumref11_Press_l0 v r1 (k : Int) acc = some (acc ++ t.map fun x => decide (x < 0))
  | [], k, acc, h1, h2 => by rw [M_thrumref11_Press_l0, if_neg (drop_end h1)]; simp
  | x :: t, k, acc, h1, h2 => by
    have g1 := drop_at h1
    rw [M_thrumref11_Press_l0, if_pos g1.1, if_pos (by omega), g1.2.1, if_pos (room1 (by simp; omega)), bindS, i64_s (by omega), r11Press_l0 v r1 hl t (k + 1) _ g1.2.2 (by simp; omega)]
    simp
theorem r11Press_eq {v : List Int} (hi : I64s v) (hl : v.length ≤ 1000000) : M_thrumref11_Press v = some (spressP v) := by
  rw [M_thrumref11_Press, r11Mean_eq hi, bindS, spressP]
  by_cases h : (meanV v).2 ≠ 0
  · rw [if_pos h, if_pos h]
  have := r11Press_l0 v (meanV v) hl v 0 [] rfl (by simp)
  rw [show ((0 : Nat) : Int) = 0 from rfl] at this
  rw [if_neg h, if_neg h, this, bindS]
  rfl
theorem rValue_eq {l m w : Int} (hl : 0 ≤ l ∧ l ≤ 18446744073709551615) (hm : J64 m) : M_thrumref10_Value l m w = some (valueP l m w) := by
  rw [M_thrumref10_Value, r10Steps_eq, bindS, orB, orB, valueP]
  by_cases hw : 1 ≤ w ∧ w ≤ 8
  · rw [if_pos hw]
    simp only
    by_cases h0 : 0 ≤ m ∧ l ≤ (stepsP w : Int)
    · have hst := stepsP_in hw
      rw [if_neg (by simp; omega), if_pos (show (1 ≤ w ∧ w ≤ 8) ∧ 0 ≤ m ∧ l ≤ (stepsP w : Int) from ⟨hw, h0⟩), u64_in m (by unfold J64 at hm; omega), if_pos (by omega), if_pos (by omega)]
      have hv := val_le hw h0.1 h0.2
      obtain ⟨k, rfl⟩ : ∃ k : Nat, m = (k : Int) := ⟨m.toNat, by omega⟩
      obtain ⟨j, rfl⟩ : ∃ j : Nat, l = (j : Int) := ⟨l.toNat, by omega⟩
      simp only [Int.toNat_natCast] at hv ⊢
      generalize hT : stepsP w = T at *
      unfold J64 at hm
      have e1 : Int.tmod (k : Int) (T : Int) = ((k % T : Nat) : Int) := rfl
      have e2 : Int.tdiv (k : Int) (T : Int) = ((k / T : Nat) : Int) := rfl
      have hkm := Nat.mod_lt k (show 0 < T by omega)
      have hkd := Nat.div_add_mod k T
      have hsplit : k * j / T = k / T * j + k % T * j / T := by
        conv => lhs; rw [← hkd, Nat.add_mul, Nat.mul_assoc]
        rw [Nat.mul_add_div (by omega)]
      have b1 : k % T * j ≤ 255 * 255 := Nat.mul_le_mul (by omega) (by omega)
      have b2 : k / T * j ≤ k * j / T := by rw [hsplit]; exact Nat.le_add_right _ _
      have b3 : k % T * j / T ≤ k * j / T := by rw [hsplit]; exact Nat.le_add_left _ _
      have hkT : k / T ≤ k := Nat.div_le_self _ _
      rw [e1, e2, ← Int.natCast_mul, u64N (n := k % T * j) (by omega), bindS, u64N (n := k / T) (by omega), ← Int.natCast_mul, u64N (n := k / T * j) (by omega), bindS, if_pos (by omega), show Int.tdiv ((k % T * j : Nat) : Int) (T : Int) = ((k % T * j / T : Nat) : Int) from rfl, u64N (n := k % T * j / T) (by omega), ← Int.natCast_add, ← hsplit, u64N (n := k * j / T) (by omega), i64_in _ (by omega)]
    · rw [if_pos (by simp; omega), if_neg (fun h => h0 h.2)]
  · rw [if_neg hw]
    simp only
    rw [if_pos (by simp), if_neg (fun h => hw h.1)]
end Go.Proofs.YtdgdgfckcnjpfaaGreat.Abs
