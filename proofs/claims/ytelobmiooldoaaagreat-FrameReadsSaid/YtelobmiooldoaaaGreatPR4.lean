/- Plain facts: what the document reads out of bits. Conditions: none. -/
import Derived.Test.YtelobmiooldoaaaGreatPR3
namespace Go.Proofs.YtelobmiooldoaaaGreat.Abs
open Go Go.RowKit Go.IntWalk Crc
set_option linter.unusedVariables false
set_option linter.unnecessarySimpa false
set_option linter.unusedSimpArgs false
set_option linter.unusedSectionVars false
set_option maxRecDepth 100000

/-- A byte's bits from one on down. -/
def downB : Nat → Nat → List Bool
  | 0, _ => []
  | j + 1, x => x.testBit j :: downB j x
def bitsN (b : List Int) (n : Nat) : List Bool := (List.range n).map (bitA b)
theorem refbits_l1 (a0 a1 : Int) (b : List Int) (hu : U8s b) (x0 : Nat) : ∀ (j : Nat) (acc : List Bool), j ≤ 8 → acc.length + j ≤ 4000000 → M_thrumref05_bits_l1 a0 a1 b (x0 : Int) ((j : Int) - 1) acc = some (acc ++ downB j (b.getD x0 0).toNat)
  | 0, acc, hj, ha => by rw [M_thrumref05_bits_l1, if_neg (by omega)]; simp [downB]
  | j + 1, acc, hj, ha => by
    have hg := U8s_get hu x0
    have e : ((j + 1 : Nat) : Int) - 1 = (j : Int) := by omega
    have hb : (Int.tmod (sShr .u8 (at' b (x0 : Int)) (j : Int)) 2 == 1) = (b.getD x0 0).toNat.testBit j := by
      have e := shrU8 (b.getD x0 0).toNat j (by omega)
      rw [Int.toNat_of_nonneg hg.1] at e
      rw [at'_get, e, Nat.testBit_eq_decide_div_mod_eq]
      generalize (b.getD x0 0).toNat / 2 ^ j = q
      rw [Int.tmod_eq_emod_of_nonneg (by omega), Bool.eq_iff_iff]
      simp; omega
    rw [e, M_thrumref05_bits_l1, if_pos (by omega), if_pos (by omega), hb, if_pos (room1 (by simp; omega)), bindS, i64_in _ (by omega), refbits_l1 a0 a1 b hu x0 j _ (by omega) (by simp; omega), downB]
    simp
theorem bits_byte (b : List Int) (k : Nat) : (List.range (8 * k)).map (bitA b) ++ downB 8 (b.getD k 0).toNat = (List.range (8 * (k + 1))).map (bitA b) := by
  have hbit : ∀ i, i < 8 → bitA b (8 * k + i) = (b.getD k 0).toNat.testBit (7 - i) := by
    intro i hi
    unfold bitA
    rw [show (8 * k + i) / 8 = k by omega, show (8 * k + i) % 8 = i by omega]
  rw [show 8 * (k + 1) = 8 * k + 8 by omega, List.range_add, List.map_append, List.map_map]
  congr 1
  simp only [downB, List.range, List.range.loop, List.map_cons, List.map_nil, Function.comp]
  rw [hbit 0 (by omega), hbit 1 (by omega), hbit 2 (by omega), hbit 3 (by omega), hbit 4 (by omega), hbit 5 (by omega), hbit 6 (by omega), hbit 7 (by omega)]
theorem refbits_l0 (a0 a1 : Int) (b : List Int) (hu : U8s b) (hl : b.length ≤ 100000) : ∀ (t : List Int) (k : Nat), b.drop k = t → k + t.length = b.length → M_thrumref05_bits_l0 a0 a1 b (k : Int) (bitsN b (8 * k)) = some (bitsN b (8 * b.length))
  | [], k, h, he => by
    rw [M_thrumref05_bits_l0, if_neg (drop_end h)]
    simp only [List.length_nil] at he
    rw [← he]; rfl
  | x :: t, k, h, he => by
    obtain ⟨h1, h2, h3⟩ := drop_at h
    have hl1 := refbits_l1 a0 a1 b hu k 8 (bitsN b (8 * k)) (by omega) (by simp [bitsN]; omega)
    simp only [List.length_cons] at he
    rw [M_thrumref05_bits_l0, if_pos h1, if_pos ⟨by omega, h1⟩]
    rw [show ((8 : Nat) : Int) - 1 = 7 from rfl] at hl1
    rw [hl1, bindS, i64_s (by omega)]
    have e : bitsN b (8 * k) ++ downB 8 (b.getD k 0).toNat = bitsN b (8 * (k + 1)) := bits_byte b k
    rw [e]
    exact refbits_l0 a0 a1 b hu hl t (k + 1) h3 (by omega)
theorem refbits_l2 (a0 a1 : Int) (j5 y : List Bool) (hl : y.length ≤ 4000000) : ∀ (t : List Bool) (k : Nat), y.drop k = t → M_thrumref05_bits_l2 a0 a1 j5 y (k : Int) = some (if t.any id = true then .inl ([], 6) else .inr ())
  | [], k, h => by rw [M_thrumref05_bits_l2, if_neg (drop_end h)]; rfl
  | x :: t, k, h => by
    obtain ⟨h1, h2, h3⟩ := drop_at h
    rw [M_thrumref05_bits_l2, if_pos h1, if_pos ⟨by omega, h1⟩, h2]
    cases x with
    | true => rw [if_pos rfl]; simp
    | false => rw [if_neg (by simp), i64_s (by omega), refbits_l2 a0 a1 j5 y hl t (k + 1) h3]; simp
theorem bitsN_tail {w d : Nat} (b : List Int) : ((bitsN b (8 * b.length)).drop (w * d)).any id = true ↔ ¬ tail0 w d b := by
  unfold tail0 bitsN
  rw [List.any_eq_true]
  constructor
  · rintro ⟨x, hx, hid⟩ h
    rw [List.mem_iff_getElem?] at hx
    obtain ⟨i, hi⟩ := hx
    rw [List.getElem?_drop, List.getElem?_map] at hi
    rcases Nat.lt_or_ge (w * d + i) (8 * b.length) with hlt | hge
    · rw [List.getElem?_range hlt] at hi
      simp only [Option.map_some, Option.some.injEq] at hi
      rw [h _ hlt (by omega)] at hi
      subst hi; simp at hid
    · rw [List.getElem?_eq_none (by simpa using hge)] at hi; simp at hi
  · intro h
    simp only [Classical.not_forall] at h
    obtain ⟨k, h1, h2, h3⟩ := h
    refine ⟨bitA b k, ?_, by simpa using h3⟩
    rw [List.mem_iff_getElem?]
    refine ⟨k - w * d, ?_⟩
    rw [List.getElem?_drop, show w * d + (k - w * d) = k by omega, List.getElem?_map, List.getElem?_range h1]; rfl
theorem bytesOf_8 (w d : Nat) : w * d ≤ 8 * bytesOf w d := by unfold bytesOf; omega
theorem refbits_eq {w d : Nat} (hw : w ≤ 8) (hd : d ≤ 4096) {b : List Int} (hu : U8s b) : M_thrumref05_bits (w : Int) (d : Int) b = some (if b.length = bytesOf w d then (if tail0 w d b then (bitsN b (w * d), 0) else ([], 6)) else ([], 4)) := by
  have hby := bytesOf_le hw hd
  have h8 := bytesOf_8 w d
  have hm : w * d ≤ 8 * 4096 := Nat.mul_le_mul hw hd
  rw [M_thrumref05_bits, refBytes_eq (by omega) hd, bindS]
  simp only
  rw [if_neg (by simp)]
  by_cases hl : b.length = bytesOf w d
  rotate_left
  · rw [if_pos (by omega), if_neg hl]
  rw [if_neg (by omega), if_pos hl]
  have h0 := refbits_l0 (w : Int) (d : Int) b hu (by omega) b 0 rfl (by omega)
  rw [show ((0 : Nat) : Int) = 0 from rfl, show bitsN b (8 * 0) = [] from rfl] at h0
  have hL : (bitsN b (8 * b.length)).length = 8 * b.length := by simp [bitsN]
  have e2 : (w : Int) * (d : Int) = ((w * d : Nat) : Int) := by push_cast; rfl
  have e3 : IntKind.i64.wrap ((w : Int) * (d : Int)) = ((w * d : Nat) : Int) := by
    rw [e2]; generalize w * d = q at *; rw [i64_in _ (by omega)]
  have c1 : cutOk (some ((w * d : Nat) : Int)) none (8 * b.length) := by
    generalize w * d = q at *; simp [cutOk]; omega
  have c2 : cutOk none (some ((w * d : Nat) : Int)) (8 * b.length) := by
    generalize w * d = q at *; simp [cutOk]; omega
  have hd2 := refbits_l2 (w : Int) (d : Int) (bitsN b (8 * b.length)) ((bitsN b (8 * b.length)).drop (w * d)) (by rw [List.length_drop, hL]; omega) _ 0 rfl
  rw [show ((0 : Nat) : Int) = 0 from rfl, List.drop_zero] at hd2
  rw [h0, bindS, e3, hL, if_pos c1, cut_none _ _ (by rw [hL]; generalize w * d = q at *; omega), bindS, Int.toNat_natCast, hd2, if_pos c2, cut_to, Int.toNat_natCast]
  by_cases ht : tail0 w d b
  · rw [if_pos ht, if_neg (fun h => (bitsN_tail b).1 h ht)]
    simp only [bindS]
    refine congrArg some (Prod.ext ?_ rfl)
    simp only [bitsN]
    rw [← List.map_take, List.take_range]
    congr 2; rw [hl]; omega
  · rw [if_neg ht, if_pos ((bitsN_tail b).2 ht)]; rfl

theorem refUn_l1 {w d : Nat} (hw : w ≤ 8) (hd : d ≤ 4096) {b : List Int} (y : List Int) {e : Nat} (he : e < d) : ∀ (j : Nat) (out : List Int) (acc : Nat), j ≤ w → e < out.length → at' out (e : Int) = (acc : Int) → acc < 2 ^ (w - j) →
    M_thrumref05_Unweave_l1 (w : Int) (d : Int) (bitsN b (w * d), 0) y (e : Int) ((w - j : Nat) : Int) out = some (out.set e ((takeIn (fun m => bitA b (pWov d e (w - 1 - m))) j acc : Nat) : Int))
  | 0, out, acc, hj, ho, ha, hacc => by
    rw [M_thrumref05_Unweave_l1, if_neg (by omega), takeIn, ← ha, at'_get]
    have : out.getD e 0 = out[e] := by simp [ho]
    rw [this, List.set_getElem_self]
  | j + 1, out, acc, hj, ho, ha, hacc => by
    have hp := (plc_wov w d).lt e he (w - (j + 1)) (by omega)
    have hm : w * d ≤ 8 * 4096 := Nat.mul_le_mul hw hd
    have hpw : 2 ^ (w - (j + 1)) ≤ 2 ^ 8 := Nat.pow_le_pow_right (by omega) (by omega)
    have hL : (bitsN b (w * d)).length = w * d := by simp [bitsN]
    have e1 : IntKind.i64.wrap (IntKind.i64.wrap (((w - (j + 1) : Nat) : Int) * (d : Int)) + (e : Int)) = ((pWov d e (w - (j + 1)) : Nat) : Int) := by
      unfold pWov at hp ⊢
      rw [show ((w - (j + 1) : Nat) : Int) * (d : Int) = (((w - (j + 1)) * d : Nat) : Int) by norm_cast]
      generalize (w - (j + 1)) * d = q at *
      generalize w * d = p at *
      rw [i64_in (q : Int) (by omega), i64_in _ (by omega)]; push_cast; rfl
    have e2 : at' (bitsN b (w * d)) ((pWov d e (w - (j + 1)) : Nat) : Int) = bitA b (pWov d e (w - (j + 1))) := by
      rw [at'_nat, List.getD_eq_getElem?_getD]
      unfold bitsN
      rw [List.getElem?_map, List.getElem?_range hp]; rfl
    have hs1 : IntKind.u64.wrap ((acc : Int) * 2) = ((2 * acc : Nat) : Int) := by rw [u64_in _ (by omega)]; push_cast; omega
    have hs2 : IntKind.u64.wrap (((2 * acc : Nat) : Int) + 1) = ((2 * acc + 1 : Nat) : Int) := by rw [u64_in _ (by omega)]; push_cast; rfl
    have ha2 : at' (out.set e ((2 * acc : Nat) : Int)) (e : Int) = ((2 * acc : Nat) : Int) := by rw [at'_get]; simp [List.getD_eq_getElem?_getD, ho]
    have hpl : pWov d e (w - (j + 1)) < (bitsN b (w * d)).length := by rw [hL]; exact hp
    have pw : 2 ^ (w - j) = 2 ^ (w - (j + 1)) * 2 := by rw [show w - j = (w - (j + 1)) + 1 by omega, Nat.pow_succ]
    rw [M_thrumref05_Unweave_l1, if_pos (by omega), if_pos (by omega), if_pos (by omega), ha, hs1, Int.toNat_natCast, bindS]
    simp only
    rw [e1, e2, if_pos (by generalize pWov d e (w - (j + 1)) = q at *; generalize (bitsN b (w * d)).length = p at *; omega), i64_s (by omega), show (w - (j + 1) + 1 : Nat) = w - j by omega, takeIn, show w - 1 - j = w - (j + 1) by omega]
    cases hbit : bitA b (pWov d e (w - (j + 1))) with
    | false =>
      rw [if_neg (by simp), refUn_l1 hw hd y he j _ (2 * acc) (by omega) (by simpa using ho) ha2 (by omega), List.set_set]; rfl
    | true =>
      rw [if_pos rfl, if_pos (by simp; omega), if_pos (by simp; omega), ha2, hs2, bindS, List.set_set, refUn_l1 hw hd y he j _ (2 * acc + 1) (by omega) (by simpa using ho) (by rw [at'_get]; simp [List.getD_eq_getElem?_getD, ho]) (by omega), List.set_set]; rfl
theorem refUn_l0 {w d : Nat} (hw : w ≤ 8) (hd : d ≤ 4096) {b y : List Int} (hy : y.length = d) : ∀ (j k : Nat), k + j = d →
    M_thrumref05_Unweave_l0 (w : Int) (d : Int) (bitsN b (w * d), 0) y (k : Int) ((planeT (pWov d) w d b).take k ++ List.replicate j 0) = some (planeT (pWov d) w d b)
  | 0, k, h => by
    rw [M_thrumref05_Unweave_l0, if_neg (by omega), List.take_of_length_le (by rw [planeT_len]; omega)]; simp
  | j + 1, k, h => by
    have hT : (planeT (pWov d) w d b).length = d := planeT_len _ _ _ _
    have hlen : ((planeT (pWov d) w d b).take k ++ List.replicate (j + 1) (0 : Int)).length = d := by simp [hT]; omega
    have hz : at' ((planeT (pWov d) w d b).take k ++ List.replicate (j + 1) (0 : Int)) (k : Int) = ((0 : Nat) : Int) := by
      rw [at'_get, List.getD_eq_getElem?_getD, List.getElem?_append_right (by simp [hT]; omega)]
      simp [hT, show min k d = k by omega]
    have h2 := refUn_l1 hw hd (b := b) y (e := k) (by omega) w ((planeT (pWov d) w d b).take k ++ List.replicate (j + 1) (0 : Int)) 0 (Nat.le_refl _) (by omega) hz (by simp)
    rw [Nat.sub_self, show ((0 : Nat) : Int) = 0 from rfl] at h2
    rw [M_thrumref05_Unweave_l0, if_pos (by omega), h2, bindS, i64_s (by omega)]
    have h3 := refUn_l0 hw hd (b := b) hy j (k + 1) (by omega)
    rw [← h3]
    congr 1
    apply List.ext_getElem?
    intro i
    rw [List.getElem?_set]
    have hk : (planeT (pWov d) w d b)[k]? = some ((takeIn (fun m => bitA b (pWov d k (w - 1 - m))) w 0 : Nat) : Int) := by
      simp [planeT, show k < d by omega]
    by_cases hi : k = i
    · subst hi
      rw [if_pos rfl, if_pos (by omega), List.getElem?_append_left (by simp [hT]; omega), List.getElem?_take, if_pos (by omega), hk]
    · rw [if_neg hi]
      by_cases hik : i < k
      · rw [List.getElem?_append_left (by simp [hT]; omega), List.getElem?_append_left (by simp [hT]; omega), List.getElem?_take, List.getElem?_take, if_pos hik, if_pos (by omega)]
      · rw [List.getElem?_append_right (by simp [hT]; omega), List.getElem?_append_right (by simp [hT]; omega)]
        simp only [List.getElem?_replicate, List.length_take, hT, show min k d = k by omega, show min (k + 1) d = k + 1 by omega]
        by_cases h5 : i < d
        · rw [if_pos (by omega), if_pos (by omega)]
        · rw [if_neg (by omega), if_neg (by omega)]
theorem refUnweave_eq {w d : Nat} (hw : w ≤ 8) (hd : d ≤ 4096) {b : List Int} (hu : U8s b) : M_thrumref05_Unweave (w : Int) (d : Int) b = some (if b.length = bytesOf w d then (if tail0 w d b then (planeT (pWov d) w d b, 0) else ([], 6)) else ([], 4)) := by
  rw [M_thrumref05_Unweave, refbits_eq hw hd hu, bindS]
  by_cases hl : b.length = bytesOf w d
  rotate_left
  · simp only [if_neg hl]; rw [if_pos (by simp)]
  by_cases ht : tail0 w d b
  rotate_left
  · simp only [if_pos hl, if_neg ht]; rw [if_pos (by simp)]
  simp only [if_pos hl, if_pos ht]
  have h := refUn_l0 hw hd (b := b) (y := List.replicate d 0) (by simp) d 0 (by omega)
  rw [List.take_zero, List.nil_append, show ((0 : Nat) : Int) = 0 from rfl] at h
  rw [if_neg (by simp), if_pos ⟨by omega, by omega, by omega, by omega⟩, Int.toNat_natCast, bindS, h, bindS]
theorem refRead5_eq {d : Nat} (hd : d ≤ 4096) {b : List Int} (hu : U8s b) : M_thrumref05_Read (d : Int) b = some (if b.length = bytesOf 1 d then (if tail0 1 d b then (readS d b, 0) else ([], 6)) else ([], 4)) := by
  have h := refbits_eq (w := 1) (d := d) (by omega) hd hu
  rw [show ((1 : Nat) : Int) = 1 from rfl] at h
  rw [M_thrumref05_Read, h, bindS]
  have e : bitsN b (1 * d) = readS d b := by
    unfold bitsN readS planeT
    rw [Nat.one_mul, List.map_map]
    refine List.map_congr_left fun e he => ?_
    simp only [Function.comp, takeIn, pSide]
    rw [show e * 1 + (1 - 1 - 0) = e by omega]
    cases bitA b e <;> rfl
  rw [e]
end Go.Proofs.YtelobmiooldoaaaGreat.Abs
