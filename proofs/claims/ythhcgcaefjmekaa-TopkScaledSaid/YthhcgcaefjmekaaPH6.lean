/- Plain facts: of a vector that is so many times greater the same places are picked. Conditions: none. -/
import Derived.Test.YthhcgcaefjmekaaPH5
namespace Go.Proofs.Ythhcgcaefjmekaa.Abs
open Go Go.RowKit Go.IntWalk
set_option linter.unusedVariables false
set_option linter.unusedSimpArgs false
set_option linter.unusedSectionVars false
set_option maxRecDepth 100000

theorem Press_eq (k : Nat) (v : List Int) (hk : k ≤ v.length) (h0 : 0 < v.length) (hv : v.length ≤ 4096) : M_topk_Press (k : Int) v = some (1, (v.length : Int), pickP k v, (pickP k v).map (at' v), 0, 0, 0) := by
  obtain ⟨pk, lk⟩ := Pick_ok k v hk hv
  have hG := Gather_eq (pickP k v) v (by omega) (pickP_rising k v) (fun n hn => by obtain ⟨i, h1, rfl, _⟩ := (pick_mem k v n).1 hn; omega)
  rw [M_topk_Press, if_neg (by omega), pk, bindS]
  simp only
  rw [if_neg (by simp), hG, bindS]
  simp

theorem Sc_l0 (v : List Int) (r1 : Bool) (b y7 : Int) (hv : v.length ≤ 50000) : ∀ (t : List Int) (k : Nat) (acc : List Int), v.drop k = t → acc.length ≤ k →
    (M_thrumlaw09_TopkScaled_l0 v r1 b y7 (k : Int) acc = some (.inl r1)) ∨ ((∀ n ∈ t, -1125899906842624 ≤ n ∧ n ≤ 1125899906842624) ∧ M_thrumlaw09_TopkScaled_l0 v r1 b y7 (k : Int) acc = some (.inr (acc ++ t.map fun n => IntKind.i64.wrap (b * n))))
  | [], k, acc, h, ha => .inr ⟨by simp, by rw [M_thrumlaw09_TopkScaled_l0, if_neg (drop_end h)]; simp⟩
  | x :: t, k, acc, h, ha => by
    obtain ⟨h1, h2, h3⟩ := drop_at h
    rw [M_thrumlaw09_TopkScaled_l0, if_pos h1, if_pos ⟨by omega, h1⟩, h2, orB]
    by_cases hx : x > 1125899906842624 ∨ x < -1125899906842624
    · exact .inl (by rw [if_pos (by simp; omega)])
    · rw [if_neg (by simp; omega), if_pos (room8 (by simp; omega)), bindS, i64_s (by omega)]
      rcases Sc_l0 v r1 b y7 hv t (k + 1) (acc ++ [IntKind.i64.wrap (b * x)]) h3 (by simp; omega) with g | ⟨g1, g2⟩
      · exact .inl g
      · refine .inr ⟨fun n hn => ?_, by rw [g2]; simp⟩
        rcases List.mem_cons.1 hn with rfl | hn
        · omega
        · exact g1 n hn
theorem Sc_l1 (v : List Int) (r1 : Bool) (b y7 : Int) (A : List Int) (hA : A.length ≤ 50000) (d1 d2 d5 d6 d7 c1 c2 c5 c6 c7 : Int) (L1 L2 : List Int) : ∀ (t : List Int) (k : Nat), A.drop k = t →
    M_thrumlaw09_TopkScaled_l1 v r1 b y7 (d1, d2, L1, A, d5, d6, d7) (c1, c2, L2, A.map fun n => IntKind.i64.wrap (b * n), c5, c6, c7) (k : Int) = some (.inr ())
  | [], k, h => by rw [M_thrumlaw09_TopkScaled_l1, if_neg (drop_end h)]
  | x :: t, k, h => by
    obtain ⟨h1, h2, h3⟩ := drop_at h
    have hB : (A.map fun n => IntKind.i64.wrap (b * n)).drop k = IntKind.i64.wrap (b * x) :: t.map fun n => IntKind.i64.wrap (b * n) := by rw [← List.map_drop, h]; rfl
    obtain ⟨k1, k2, k3⟩ := drop_at hB
    rw [M_thrumlaw09_TopkScaled_l1]
    simp only
    rw [if_pos h1, if_pos ⟨by omega, h1⟩, if_pos ⟨by omega, k1⟩, h2, k2, if_neg (by simp), i64_s (by omega)]
    exact Sc_l1 v r1 b y7 A hA d1 d2 d5 d6 d7 c1 c2 c5 c6 c7 L1 L2 t (k + 1) h3
theorem Sc_l2 (r1 : Bool) (x y : List Int) (e1 e2 : Int) (hl : x.length = y.length) (hx : x.length ≤ 50000) (h : ∀ i : Nat, i < x.length → at' x (i : Int) = at' y (i : Int)) : ∀ (j k : Nat), k + j = x.length → M_thrumlaw09_TopkScaled_l2 r1 (x, e1) (y, e2) (k : Int) = some (.inr ())
  | 0, k, hk => by
    rw [M_thrumlaw09_TopkScaled_l2]
    simp only
    rw [if_neg (by omega)]
  | j + 1, k, hk => by
    rw [M_thrumlaw09_TopkScaled_l2]
    simp only
    rw [if_pos (by omega), if_pos (by omega), if_pos (by omega), h k (by omega), if_neg (by simp), i64_s (by omega)]
    exact Sc_l2 r1 x y e1 e2 hl hx h j (k + 1) (by omega)

def scale (b : Int) (x : T_topk_one) : T_topk_one := ⟨x.F_place, b * x.F_size⟩
theorem bh_scale {b : Int} (hb : 1 ≤ b) (x y : T_topk_one) : bh (scale b x) (scale b y) ↔ bh x y := by
  have h1 : b * x.F_size < b * y.F_size ↔ x.F_size < y.F_size := Int.mul_lt_mul_left (by omega)
  have h2 : b * x.F_size = b * y.F_size ↔ x.F_size = y.F_size := Int.mul_eq_mul_left_iff (by omega)
  unfold bh scale
  simp only [h1, h2]
theorem ones_scale {b : Int} (hb : 1 ≤ b ∧ b ≤ 1000) : ∀ (t : List Int) (k : Nat), (∀ n ∈ t, -1125899906842624 ≤ n ∧ n ≤ 1125899906842624) → oneF k (t.map fun n => IntKind.i64.wrap (b * n)) = (oneF k t).map (scale b)
  | [], k, h => rfl
  | x :: t, k, h => by
    have hx := h x (by simp)
    have hm : -1125899906842624000 ≤ b * x ∧ b * x ≤ 1125899906842624000 := by
      have a1 : b * x ≤ b * 1125899906842624 := Int.mul_le_mul_of_nonneg_left hx.2 (by omega)
      have a2 : b * (-1125899906842624) ≤ b * x := Int.mul_le_mul_of_nonneg_left hx.1 (by omega)
      omega
    have hs : sizeP (IntKind.i64.wrap (b * x)) = b * sizeP x := by
      rw [i64_in _ (by omega), sizeP_abs (by omega), sizeP_abs (by omega), Int.natAbs_mul, Int.natCast_mul]
      congr 1; omega
    rw [List.map_cons, oneF, oneF, List.map_cons, ones_scale hb t (k + 1) fun n hn => h n (List.mem_cons_of_mem _ hn), hs]
    rfl
theorem pick_scale {b : Int} (hb : 1 ≤ b ∧ b ≤ 1000) (k : Nat) (v : List Int) (h : ∀ n ∈ v, -1125899906842624 ≤ n ∧ n ≤ 1125899906842624) : pickP k (v.map fun n => IntKind.i64.wrap (b * n)) = pickP k v := by
  have ho : onesP (v.map fun n => IntKind.i64.wrap (b * n)) = (onesP v).map (scale b) := ones_scale hb v 0 h
  have hr : ∀ x, rank (v.map fun n => IntKind.i64.wrap (b * n)) (scale b x) = rank v x := by
    intro x
    unfold rank
    rw [ho, List.countP_map]
    congr 1
    funext y
    simp only [Function.comp_apply, bh_scale hb.1]
  unfold pickP
  rw [ho, List.filter_map, List.map_map]
  have e1 : (T_topk_one.F_place ∘ scale b) = T_topk_one.F_place := rfl
  rw [e1]
  congr 2
  funext x
  simp only [Function.comp_apply, hr]

theorem rising_le : ∀ {a b : List Int}, rising a = true → rising b = true → (∀ n ∈ a, n ∈ b) → a.length ≤ b.length
  | [], b, _, _, _ => by simp
  | x :: a, [], _, _, h => absurd (h x (by simp)) (by simp)
  | x :: a, y :: b, ha, hb, h => by
    have hx := rising_cons ha
    have hy := rising_cons hb
    have hs : ∀ n ∈ a, n ∈ b := fun n hn => by
      rcases List.mem_cons.1 (h n (List.mem_cons_of_mem _ hn)) with e | e
      · exfalso
        have := hx n hn
        rcases List.mem_cons.1 (h x (by simp)) with e2 | e2
        · omega
        · have := hy x e2; omega
      · exact e
    have := rising_le (rising_tail ha) (rising_tail hb) hs
    simp only [List.length_cons]; omega
theorem rising_lt : ∀ {a b : List Int} {i : Int}, rising a = true → rising b = true → (∀ n ∈ a, n ∈ b) → i ∈ b → i ∉ a → a.length < b.length
  | [], b, i, _, _, _, hi, _ => by cases b <;> simp at hi ⊢
  | x :: a, [], i, _, _, h, _, _ => absurd (h x (by simp)) (by simp)
  | x :: a, y :: b, i, ha, hb, h, hi, hn => by
    have hx := rising_cons ha
    have hy := rising_cons hb
    by_cases e : x = y
    · subst e
      have hs : ∀ n ∈ a, n ∈ b := fun n hn => by
        rcases List.mem_cons.1 (h n (List.mem_cons_of_mem _ hn)) with e | e
        · have := hx n hn; omega
        · exact e
      have hib : i ∈ b := by
        rcases List.mem_cons.1 hi with e | e
        · exact absurd (by simp [e]) hn
        · exact e
      have := rising_lt (rising_tail ha) (rising_tail hb) hs hib (fun h => hn (List.mem_cons_of_mem _ h))
      simp only [List.length_cons]; omega
    · have hxb : x ∈ b := (List.mem_cons.1 (h x (by simp))).resolve_left e
      have hs : ∀ n ∈ x :: a, n ∈ b := fun n hn => by
        rcases List.mem_cons.1 (h n hn) with e2 | e2
        · exfalso
          have := hy x hxb
          rcases List.mem_cons.1 hn with e3 | e3
          · omega
          · have := hx n e3; omega
        · exact e2
      have := rising_le ha (rising_tail hb) hs
      simp only [List.length_cons] at this ⊢; omega

theorem at_map (f : Int → Int) {v : List Int} {n : Int} (h : 0 ≤ n ∧ n < (v.length : Int)) : at' (v.map f) n = f (at' v n) := by
  unfold at'
  have : n.toNat < v.length := by omega
  simp [List.getD_eq_getElem?_getD, List.getElem?_eq_getElem this]

theorem TopkScaled_true (k0 : Int) (v : List Int) (by0 : Int) (hk0 : -9223372036854775808 ≤ k0 ∧ k0 ≤ 9223372036854775807) (hi : I64s v) (hb0 : -9223372036854775808 ≤ by0 ∧ by0 ≤ 9223372036854775807) : M_thrumlaw09_TopkScaled k0 v by0 = some true := by
  obtain ⟨b, hb1, hb2⟩ := few9_eq v
  rw [M_thrumlaw09_TopkScaled, live9_eq, bindS, if_neg (by simp), hb1, bindS]
  cases b with
  | false => rw [if_pos rfl, bindS, if_pos rfl, bindS, if_pos rfl]
  | true =>
  rw [if_neg (by simp), bindS]
  by_cases h0 : v.length = 0
  · rw [if_pos (by simp [h0]), bindS, if_pos rfl]
  rw [if_neg (by simp [h0]), bindS]
  by_cases h4 : (v.length : Int) > 4096
  · rw [if_pos (by simpa using h4)]
  rw [if_neg (by simpa using h4)]
  have hv : v.length ≤ 200 := by have := hb2 rfl; omega
  -- how many times
  have t1 : -(1000 : Int) < Int.tmod by0 1000 ∧ Int.tmod by0 1000 < 1000 := ⟨Int.lt_tmod_of_pos by0 (by omega), Int.tmod_lt_of_pos by0 (by omega)⟩
  have w1 : IntKind.i64.wrap (Int.tmod by0 1000 + 1000) = Int.tmod by0 1000 + 1000 := i64_in _ (by omega)
  have t2 : 0 ≤ Int.tmod (Int.tmod by0 1000 + 1000) 1000 ∧ Int.tmod (Int.tmod by0 1000 + 1000) 1000 < 1000 := by
    rw [Int.tmod_eq_emod_of_nonneg (by omega)]; omega
  rw [w1, i64_in (1 + _) (by omega), bindS]
  obtain ⟨B, hB⟩ : ∃ B, B = 1 + Int.tmod (Int.tmod by0 1000 + 1000) 1000 := ⟨_, rfl⟩
  rw [← hB]
  have hB1 : 1 ≤ B ∧ B ≤ 1000 := by omega
  -- how many
  have w2 : IntKind.i64.wrap ((v.length : Int) + 1) = ((v.length + 1 : Nat) : Int) := by rw [i64_in _ (by omega)]; omega
  rw [w2, if_pos (by omega)]
  generalize hM : v.length + 1 = M at *
  have t3 : -(M : Int) < Int.tmod k0 (M : Int) ∧ Int.tmod k0 (M : Int) < (M : Int) := ⟨Int.lt_tmod_of_pos k0 (by omega), Int.tmod_lt_of_pos k0 (by omega)⟩
  have w3 : IntKind.i64.wrap (IntKind.i64.wrap (Int.tmod k0 (M : Int) + (v.length : Int)) + 1) = Int.tmod k0 (M : Int) + (M : Int) := by
    rw [i64_in (Int.tmod k0 (M : Int) + (v.length : Int)) (by omega), i64_in _ (by omega)]; omega
  rw [w3, bindS, if_pos (by omega)]
  obtain ⟨kk, h2, h3⟩ : ∃ fr : Nat, Int.tmod (Int.tmod k0 (M : Int) + (M : Int)) (M : Int) = (fr : Int) ∧ fr < M := by
    rw [Int.tmod_eq_emod_of_nonneg (by omega)]
    have g1 := Int.emod_nonneg (Int.tmod k0 (M : Int) + (M : Int)) (show (M : Int) ≠ 0 by omega)
    have g2 := Int.emod_lt_of_pos (Int.tmod k0 (M : Int) + (M : Int)) (show (0 : Int) < (M : Int) by omega)
    exact ⟨((Int.tmod k0 (M : Int) + (M : Int)) % (M : Int)).toNat, by omega, by omega⟩
  have hl0 := Sc_l0 v true B (Int.tmod k0 (M : Int) + (M : Int)) (by omega) v 0 [] rfl (by simp)
  rw [show ((0 : Nat) : Int) = 0 from rfl] at hl0
  rcases hl0 with hl0 | ⟨hbd, hl0⟩
  · rw [hl0]; rfl
  rw [hl0, bindS]
  simp only [List.nil_append]
  have hpw := pick_scale hB1 kk v hbd
  have hP := Press_eq kk v (by omega) (by omega) (by omega)
  have hPw := Press_eq kk (v.map fun n => IntKind.i64.wrap (B * n)) (by simp; omega) (by simp; omega) (by simp; omega)
  obtain ⟨_, lk⟩ := Pick_ok kk v (by omega) (by omega)
  have hin : ∀ n ∈ pickP kk v, 0 ≤ n ∧ n < (v.length : Int) := fun n hn => by obtain ⟨i, h1, rfl, _⟩ := (pick_mem kk v n).1 hn; omega
  have hrise := pickP_rising kk v
  rw [hpw] at hPw
  have hV : (pickP kk v).map (at' (v.map fun n => IntKind.i64.wrap (B * n))) = ((pickP kk v).map (at' v)).map fun n => IntKind.i64.wrap (B * n) := by
    rw [List.map_map]
    exact List.map_congr_left fun n hn => at_map _ (hin n hn)
  rw [hV] at hPw
  rw [h2, hP, bindS, hPw, bindS]
  generalize hL : pickP kk v = L at *
  simp only
  rw [if_neg (by simp), bindS]
  simp only [bne_self_eq_false, Bool.false_eq_true, if_false]
  rw [Equal_eq L L (by omega), bindS, bindS]
  simp only [decide_true, Bool.not_true, Bool.false_eq_true, if_false, List.length_map, bne_self_eq_false, bindS]
  have hl1 := Sc_l1 v true B (Int.tmod k0 (M : Int) + (M : Int)) (L.map (at' v)) (by simp; omega) 1 (v.length : Int) 0 0 0 1 (v.length : Int) 0 0 0 L L (L.map (at' v)) 0 rfl
  rw [show ((0 : Nat) : Int) = 0 from rfl] at hl1
  rw [hl1]
  simp only [bindS]
  have hc : checkP (v.length : Int) L = 0 := placed_iff.2 ⟨by simp [meas]; omega, hrise, hin⟩
  have hS := Spread_eq (v.length : Int) L (L.map (at' v)) (by omega) hc (by simp)
  rw [hS, bindS]
  simp only
  generalize hx : spreadG (List.replicate (v.length : Int).toNat 0) L (L.map (at' v)) = x
  have hxl : x.length = v.length := by rw [← hx, spreadG_len]; simp
  have hxat : ∀ n : Int, 0 ≤ n → at' x n = if n ∈ L then at' v n else 0 := fun n hn => by
    rw [← hx, spread_map (at' v) L _ (fun n hn => by have := hin n hn; simp; omega) n hn]
    split
    · rfl
    · unfold at'; simp [List.getD_eq_getElem?_getD, List.getElem?_replicate]; split <;> rfl
  have hP2 := Press_eq kk x (by omega) (by omega) (by omega)
  obtain ⟨_, lk2⟩ := Pick_ok kk x (by omega) (by omega)
  have hin2 : ∀ n ∈ pickP kk x, 0 ≤ n ∧ n < (x.length : Int) := fun n hn => by obtain ⟨i, h1, rfl, _⟩ := (pick_mem kk x n).1 hn; omega
  rw [hP2, bindS]
  simp only
  have hc2 : checkP (v.length : Int) (pickP kk x) = 0 := placed_iff.2 ⟨by simp [meas]; omega, pickP_rising kk x, fun n hn => by have := hin2 n hn; omega⟩
  have hS2 := Spread_eq (v.length : Int) (pickP kk x) ((pickP kk x).map (at' x)) (by omega) hc2 (by simp)
  rw [hS2, bindS]
  simp only [ne_eq, not_true, if_false, bne_self_eq_false, bindS, Bool.false_eq_true, spreadG_len, List.length_replicate, hxl, Int.toNat_natCast]
  have hI : I64s x := fun n hn => by
    obtain ⟨i, hi', rfl⟩ := List.getElem_of_mem hn
    have e1 : x[i] = at' x (i : Int) := by simp [at'_nat, List.getD_eq_getElem?_getD, List.getElem?_eq_getElem hi']
    rw [e1, hxat i (by omega)]
    split
    · exact at_I64 hi
    · decide
  have hy : ∀ i : Nat, i < x.length → at' x (i : Int) = at' (spreadG (List.replicate v.length 0) (pickP kk x) ((pickP kk x).map (at' x))) (i : Int) := by
    intro i hix
    rw [spread_map (at' x) (pickP kk x) _ (fun n hn => by have := hin2 n hn; simp; omega) i (by omega)]
    by_cases hp : (i : Int) ∈ pickP kk x
    · rw [if_pos hp]
    · rw [if_neg hp]
      have hz : at' (List.replicate v.length (0 : Int)) (i : Int) = 0 := by unfold at'; simp [List.getD_eq_getElem?_getD, List.getElem?_replicate]; split <;> rfl
      rw [hz]
      by_cases hne : at' x (i : Int) = 0
      · exact hne
      exfalso
      have hiL : (i : Int) ∈ L := by
        by_cases h : (i : Int) ∈ L
        · exact h
        · exact absurd (by rw [hxat i (by omega), if_neg h]) hne
      have hsub : ∀ n ∈ pickP kk x, n ∈ L := by
        intro n hn
        obtain ⟨a1, a2⟩ := hin2 n hn
        obtain ⟨j, rfl⟩ : ∃ j : Nat, n = j := ⟨n.toNat, by omega⟩
        have hbst := (pick_best (k := kk) (v := x) (by omega) (by omega) hn hix hp).2
        unfold bh oneAt at hbst
        simp only at hbst
        have q1 : x.getD i 0 = at' x (i : Int) := rfl
        have q2 : x.getD j 0 = at' x (j : Int) := rfl
        rw [q1, q2, sizeP_abs (at_I64 hI), sizeP_abs (at_I64 hI)] at hbst
        by_cases h : (j : Int) ∈ L
        · exact h
        · have : at' x (j : Int) = 0 := by rw [hxat j (by omega), if_neg h]
          rw [this] at hbst
          omega
      have := rising_lt (pickP_rising kk x) hrise hsub hiL hp
      omega
  have hl2 := Sc_l2 true x (spreadG (List.replicate v.length 0) (pickP kk x) ((pickP kk x).map (at' x))) 0 0 (by rw [spreadG_len]; simp; omega) (by omega) hy x.length 0 (by omega)
  rw [show ((0 : Nat) : Int) = 0 from rfl] at hl2
  rw [hl2]; rfl
end Go.Proofs.Ythhcgcaefjmekaa.Abs
