/- Plain facts: with one more, those that were picked are picked, too. Conditions: none. -/
import Derived.Test.YthhcgcaefjmekaaPH3
namespace Go.Proofs.Ythhcgcaefjmekaa.Abs
open Go Go.RowKit Go.IntWalk
set_option linter.unusedVariables false
set_option linter.unusedSimpArgs false
set_option linter.unusedSectionVars false
set_option maxRecDepth 100000

def I64s (v : List Int) : Prop := ∀ n ∈ v, -9223372036854775808 ≤ n ∧ n ≤ 9223372036854775807

/-- The least size. -/
def leastG (v : List Int) : List Int → Bool → Int → Bool × Int
  | [], b, x => (b, x)
  | n :: t, b, x => if n < 0 ∨ n ≥ (v.length : Int) then leastG v t b x else if b = false ∨ sizeP (at' v n) < x then leastG v t true (sizeP (at' v n)) else leastG v t b x
theorem Least_l0 (l v : List Int) (hl : l.length ≤ 4611686018427387904) : ∀ (t : List Int) (k : Nat) (b : Bool) (x : Int), l.drop k = t → M_topk_Least_l0 l v (k : Int) b x = some (leastG v t b x)
  | [], k, b, x, h => by rw [M_topk_Least_l0, if_neg (drop_end h)]; rfl
  | n :: t, k, b, x, h => by
    obtain ⟨h1, h2, h3⟩ := drop_at h
    rw [M_topk_Least_l0, if_pos h1, if_pos ⟨by omega, h1⟩, h2, orB, i64_s (by omega), leastG]
    by_cases hn : n < 0 ∨ n ≥ (v.length : Int)
    · rw [if_pos (by simp; omega), if_pos hn, Least_l0 l v hl t (k + 1) b x h3]
    · rw [if_neg (by simp; omega), if_neg hn, if_pos (by omega), size_eq, bindS]
      cases b with
      | false => rw [if_pos rfl, bindS, if_pos rfl, if_pos (.inl rfl), Least_l0 l v hl t (k + 1) true _ h3]
      | true =>
        rw [if_neg (by simp), bindS]
        by_cases hs : sizeP (at' v n) < x
        · rw [if_pos (by simpa using hs), if_pos (.inr hs), Least_l0 l v hl t (k + 1) true _ h3]
        · rw [if_neg (by simpa using hs), if_neg (by simp; omega), Least_l0 l v hl t (k + 1) true _ h3]
theorem Least_eq (l v : List Int) (hl : l.length ≤ 4611686018427387904) : M_topk_Least l v = some ((leastG v l false 0).2, (leastG v l false 0).1) := by
  have h := Least_l0 l v hl l 0 false 0 rfl
  rw [show ((0 : Nat) : Int) = 0 from rfl] at h
  rw [M_topk_Least, h, bindS]
theorem leastG_spec (v : List Int) : ∀ (t : List Int) (b : Bool) (x : Int), (∀ n ∈ t, 0 ≤ n ∧ n < (v.length : Int)) → ((leastG v t b x).1 = (b || !t.isEmpty)) ∧ ((leastG v t b x).2 = x ∨ ∃ n ∈ t, (leastG v t b x).2 = sizeP (at' v n)) ∧ (b = false → t ≠ [] → ∃ n ∈ t, (leastG v t b x).2 = sizeP (at' v n))
  | [], b, x, h => by simp [leastG]
  | n :: t, b, x, h => by
    have hn := h n (by simp)
    have ht : ∀ m ∈ t, 0 ≤ m ∧ m < (v.length : Int) := fun m hm => h m (List.mem_cons_of_mem _ hm)
    rw [leastG, if_neg (by omega)]
    split
    · obtain ⟨g1, g2, g3⟩ := leastG_spec v t true (sizeP (at' v n)) ht
      have g4 : ∃ m ∈ n :: t, (leastG v t true (sizeP (at' v n))).2 = sizeP (at' v m) := by
        rcases g2 with g2 | ⟨m, hm, g2⟩
        · exact ⟨n, by simp, g2⟩
        · exact ⟨m, List.mem_cons_of_mem _ hm, g2⟩
      exact ⟨by rw [g1]; simp, .inr g4, fun _ _ => g4⟩
    · rename_i hc
      have hb : b = true := by cases b <;> simp at hc ⊢
      subst hb
      obtain ⟨g1, g2, g3⟩ := leastG_spec v t true x ht
      refine ⟨by rw [g1]; simp, ?_, fun hb => by cases hb⟩
      rcases g2 with g2 | ⟨m, hm, g2⟩
      · exact .inl g2
      · exact .inr ⟨m, List.mem_cons_of_mem _ hm, g2⟩

theorem live_pick : pickP 2 [3, -5, 5, 1] = [1, 2] := by kernel_rfl
theorem live_least : leastG [3, -5, 5, 1] [1, 2] false 0 = (true, 5) := by kernel_rfl
theorem live9_eq : M_thrumlaw09_live = some true := by
  obtain ⟨h, _⟩ := Pick_ok 2 [3, -5, 5, 1] (by simp) (by simp)
  rw [show ((2 : Nat) : Int) = 2 from rfl, live_pick] at h
  rw [M_thrumlaw09_live, h, bindS, Least_eq _ _ (by simp), bindS, live_least]
  simp only [if_true]
  rw [Equal_eq _ _ (by simp)]
  simp [bindS]
theorem few9_eq (v : List Int) : ∃ b, M_thrumlaw09_few v = some b ∧ (b = true → v.length ≤ 200 ∨ (4096 < v.length ∧ v.length ≤ 5000)) := by
  rw [M_thrumlaw09_few]
  by_cases h1 : (v.length : Int) ≤ 200
  · exact ⟨true, by rw [if_pos h1], fun _ => .inl (by omega)⟩
  · rw [if_neg h1]
    by_cases h2 : (v.length : Int) > 4096
    · refine ⟨_, by rw [if_pos h2], fun h => .inr ⟨by omega, ?_⟩⟩
      have : (v.length : Int) ≤ 5000 := by simpa using h
      omega
    · exact ⟨false, by rw [if_neg h2], fun h => by cases h⟩

theorem hasP_mem {l : List Int} {n : Int} (hr : rising l = true) (hn : n ∈ l) : (hasP l n).2 = true := by
  obtain ⟨i, hi, e⟩ := List.getElem_of_mem hn
  have gd : ∀ q (h : q < l.length), l.getD q 0 = l[q] := fun q h => by simp [List.getD_eq_getElem?_getD, List.getElem?_eq_getElem h]
  have hpw := List.pairwise_iff_getElem.1 (rising_iff.1 hr)
  have hc : cntLt l n = i := cnt_spec (by omega) (fun q hq => by rw [gd q (by omega)]; have := hpw q i (by omega) hi hq; omega) (fun h => by rw [gd i h]; omega)
  rw [hasP, hc]
  simp only [hi, decide_true, Bool.true_and, at'_nat]
  rw [show (default : Int) = 0 from rfl, gd i hi, e]; simp

theorem size_neg {n : Int} (h : -9223372036854775808 ≤ n ∧ n ≤ 9223372036854775807) : sizeP (IntKind.i64.wrap (0 - n)) = sizeP n := by
  have w := i64_ge (0 - n)
  rw [sizeP_abs w, sizeP_abs h, IntKind.wrap_i64]
  omega
theorem ones_neg : ∀ (t : List Int) (k : Nat), I64s t → oneF k (t.map fun n => IntKind.i64.wrap (0 - n)) = oneF k t
  | [], k, h => rfl
  | x :: t, k, h => by
    rw [List.map_cons, oneF, oneF, size_neg (h x (by simp)), ones_neg t (k + 1) fun n hn => h n (List.mem_cons_of_mem _ hn)]

theorem More_l0 (v : List Int) (r1 : Bool) (y13 : Int) (r15 r16 : List Int × Int) (hv : v.length ≤ 50000) : ∀ (t : List Int) (k : Nat) (pre : List Int), v.drop k = t → pre.length = k →
    M_thrumlaw09_TopkMore_l0 v r1 y13 r15 r16 (k : Int) (pre ++ List.replicate t.length 0) = some (pre ++ t.map fun n => IntKind.i64.wrap (0 - n))
  | [], k, pre, h, hp => by rw [M_thrumlaw09_TopkMore_l0, if_neg (drop_end h)]; simp
  | x :: t, k, pre, h, hp => by
    obtain ⟨h1, h2, h3⟩ := drop_at h
    have hs : (pre ++ List.replicate (x :: t).length (0 : Int)).set (Int.toNat (k : Int)) (IntKind.i64.wrap (0 - x)) = (pre ++ [IntKind.i64.wrap (0 - x)]) ++ List.replicate t.length 0 := by
      rw [Int.toNat_natCast, List.set_append_right _ _ (by omega), List.length_cons, List.replicate_succ, show k - pre.length = 0 by omega]
      simp
    rw [M_thrumlaw09_TopkMore_l0, if_pos h1, if_pos ⟨by omega, h1⟩, h2, if_pos ⟨by omega, by simp; omega⟩, bindS, i64_s (by omega), hs, More_l0 v r1 y13 r15 r16 hv t (k + 1) _ h3 (by simp; omega)]
    simp
theorem More_l1 (r1 : Bool) (a b : List Int) (ha : a.length ≤ 50000) (hb : b.length ≤ 50000) (hr : rising b = true) (hs : ∀ n ∈ a, n ∈ b) (e1 e2 : Int) : ∀ (t : List Int) (k : Nat), a.drop k = t → M_thrumlaw09_TopkMore_l1 r1 (a, e1) (b, e2) (k : Int) = some (.inr ())
  | [], k, h => by rw [M_thrumlaw09_TopkMore_l1, if_neg (drop_end h)]
  | x :: t, k, h => by
    obtain ⟨h1, h2, h3⟩ := drop_at h
    have hx : x ∈ a := by
      have : x ∈ a.drop k := by rw [h]; simp
      exact List.mem_of_mem_drop this
    rw [M_thrumlaw09_TopkMore_l1]
    simp only
    rw [if_pos h1, if_pos ⟨by omega, h1⟩, h2, Has_eq b x (by omega) hr, bindS, hasP_mem hr (hs x hx), if_neg (by simp), i64_s (by omega), More_l1 r1 a b ha hb hr hs e1 e2 t (k + 1) h3]

theorem TopkMore_true (k0 : Int) (v : List Int) (hk0 : -9223372036854775808 ≤ k0 ∧ k0 ≤ 9223372036854775807) (hi : I64s v) : M_thrumlaw09_TopkMore k0 v = some true := by
  obtain ⟨b, hb1, hb2⟩ := few9_eq v
  rw [M_thrumlaw09_TopkMore, live9_eq, bindS, if_neg (by simp), hb1, bindS]
  cases b with
  | false => rw [if_pos rfl, bindS, if_pos rfl]
  | true =>
  rw [if_neg (by simp), bindS]
  by_cases h4 : (v.length : Int) > 4096
  · rw [if_pos (by simpa using h4)]
  rw [if_neg (by simpa using h4)]
  have hv : v.length ≤ 200 := by have := hb2 rfl; omega
  obtain ⟨p0, l0⟩ := Pick_ok 0 v (by omega) (by omega)
  obtain ⟨pn, ln⟩ := Pick_ok v.length v (Nat.le_refl _) (by omega)
  rw [show ((0 : Nat) : Int) = 0 from rfl] at p0
  rw [p0, bindS, pn, bindS]
  simp only [l0, ln]
  rw [if_neg (by simp)]
  simp only [bne_self_eq_false, bindS, Bool.false_eq_true, if_false, Int.natCast_zero]
  by_cases h0 : v.length = 0
  · simp [h0, bindS]
  rw [if_neg (by simpa using h0), if_pos (by omega), if_pos (by omega)]
  generalize hM : v.length = M at *
  have t1 : -(M : Int) < Int.tmod k0 (M : Int) ∧ Int.tmod k0 (M : Int) < (M : Int) := ⟨Int.lt_tmod_of_pos k0 (by omega), Int.tmod_lt_of_pos k0 (by omega)⟩
  rw [i64_in _ (by omega)]
  obtain ⟨kk, h2, h3⟩ : ∃ fr : Nat, Int.tmod (Int.tmod k0 (M : Int) + (M : Int)) (M : Int) = (fr : Int) ∧ fr < M := by
    rw [Int.tmod_eq_emod_of_nonneg (by omega)]
    have g1 := Int.emod_nonneg (Int.tmod k0 (M : Int) + (M : Int)) (show (M : Int) ≠ 0 by omega)
    have g2 := Int.emod_lt_of_pos (Int.tmod k0 (M : Int) + (M : Int)) (show (0 : Int) < (M : Int) by omega)
    exact ⟨((Int.tmod k0 (M : Int) + (M : Int)) % (M : Int)).toNat, by omega, by omega⟩
  rw [h2]
  obtain ⟨pk, lk⟩ := Pick_ok kk v (by omega) (by omega)
  obtain ⟨pk1, lk1⟩ := Pick_ok (kk + 1) v (by omega) (by omega)
  rw [pk, bindS, i64_s (by omega), pk1, bindS, if_pos (by omega)]
  have hl0 := More_l0 v true (Int.tmod k0 (M : Int) + (M : Int)) (pickP kk v, 0) (pickP (kk + 1) v, 0) (by omega) v 0 [] rfl rfl
  rw [show ((0 : Nat) : Int) = 0 from rfl, hM] at hl0
  simp only [List.nil_append] at hl0
  rw [Int.toNat_natCast, hl0, bindS]
  generalize hw : (v.map fun n => IntKind.i64.wrap (0 - n)) = w
  have how : onesP w = onesP v := by rw [← hw]; exact ones_neg v 0 hi
  have hpw : pickP kk w = pickP kk v := by unfold pickP rank; rw [how]
  obtain ⟨pw, lw⟩ := Pick_ok kk w (by rw [← hw]; simp; omega) (by rw [← hw]; simp; omega)
  rw [pw, bindS, hpw]
  simp only
  rw [if_neg (by simp), bindS]
  simp only [bne_self_eq_false, Bool.false_eq_true, if_false, bindS]
  rw [Equal_eq _ _ (by omega), bindS]
  simp only [decide_true, Bool.not_true, bindS, Bool.false_eq_true, if_false]
  have hl1 := More_l1 true (pickP kk v) (pickP (kk + 1) v) (by omega) (by omega) (pickP_rising _ _) (fun n hn => by
    obtain ⟨i, h1, h2, h3⟩ := (pick_mem kk v n).1 hn
    exact (pick_mem (kk + 1) v n).2 ⟨i, h1, h2, by omega⟩) 0 0 (pickP kk v) 0 rfl
  rw [show ((0 : Nat) : Int) = 0 from rfl] at hl1
  rw [hl1]; rfl
end Go.Proofs.Ythhcgcaefjmekaa.Abs
