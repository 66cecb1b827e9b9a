/- Plain facts: what was loosened, pressed again that way, is loosened to the same. Conditions: none. -/
import Derived.Test.YtdgdgfckcnjpfaaGreatPV8
namespace Go.Proofs.YtdgdgfckcnjpfaaGreat.Abs
open Go Go.RowKit Go.IntWalk
set_option linter.unusedVariables false
set_option linter.unusedSimpArgs false
set_option linter.unnecessarySimpa false
set_option maxRecDepth 100000

theorem cnt_le (p q : T_topk_one → Bool) : ∀ (x v : List Int) (k : Nat), x.length = v.length → (∀ i, i < v.length → p ⟨((k + i : Nat) : Int), sizeP (x.getD i 0)⟩ = true → q ⟨((k + i : Nat) : Int), sizeP (v.getD i 0)⟩ = true) → (oneF k x).countP p ≤ (oneF k v).countP q
  | [], [], k, h, hh => by simp [oneF]
  | [], b :: v, k, h, hh => by simp at h
  | a :: x, [], k, h, hh => by simp at h
  | a :: x, b :: v, k, h, hh => by
    rw [oneF, oneF, List.countP_cons, List.countP_cons]
    have ih := cnt_le p q x v (k + 1) (by simpa using h) fun i hi hp => by
      have := hh (i + 1) (by simpa using hi)
      simp only [List.getD_cons_succ] at this
      rw [show k + 1 + i = k + (i + 1) by omega] at hp ⊢
      exact this hp
    have h0 := hh 0 (by simp)
    simp only [List.getD_cons_zero, Nat.add_zero] at h0
    by_cases c : p ⟨(k : Int), sizeP a⟩ = true
    · rw [if_pos c, if_pos (h0 c)]; omega
    · rw [if_neg c]; omega
theorem topV_len (k : Nat) (v : List Int) : (topV k v).length = v.length := by simp [topV]
theorem topV_at (k : Nat) (v : List Int) (i : Nat) (hi : i < v.length) : (topV k v).getD i 0 = if ((i : Nat) : Int) ∈ pickP k v then v.getD i 0 else 0 := by
  rw [List.getD_eq_getElem?_getD, List.getElem?_eq_getElem (by rw [topV_len]; exact hi)]
  simp [topV]
theorem sizeP_0 : sizeP 0 = 0 := by decide
/-- The greatest of the greatest are the greatest. -/
theorem topV_again {v : List Int} (hi : I64s v) (k : Nat) : topV k (topV k v) = topV k v := by
  conv => rhs; rw [list_range (topV k v)]
  conv => lhs; rw [topV]
  rw [topV_len]
  apply List.map_congr_left
  intro i hir
  have hil := List.mem_range.1 hir
  have hx := topV_at k v i hil
  have sz : ∀ j, sizeP (v.getD j 0) = ((v.getD j 0).natAbs : Int) := fun j => sizeP_abs (getD_J hi j)
  by_cases hz : (topV k v).getD i 0 = 0
  · rw [hz]; split <;> rfl
  · rw [if_pos]
    have hin : ((i : Nat) : Int) ∈ pickP k v := by
      rcases Classical.em (((i : Nat) : Int) ∈ pickP k v) with h | h
      · exact h
      · rw [if_neg h] at hx; exact absurd hx hz
    rw [if_pos hin] at hx
    obtain ⟨j, _, hj2, hj3⟩ := (pick_mem k v _).1 hin
    obtain rfl : i = j := by omega
    refine (pick_mem k (topV k v) _).2 ⟨i, by rw [topV_len]; exact hil, rfl, Nat.lt_of_le_of_lt ?_ hj3⟩
    rw [hx]
    unfold rank onesP
    refine cnt_le _ _ _ _ 0 (topV_len k v) fun m hm hp => ?_
    rw [Nat.zero_add] at hp ⊢
    have hym := topV_at k v m hm
    simp only [decide_eq_true_eq] at hp ⊢
    unfold bh at *
    simp only at hp ⊢
    by_cases hmin : ((m : Nat) : Int) ∈ pickP k v
    · rw [if_pos hmin] at hym
      rw [hym] at hp; exact hp
    · rw [if_neg hmin] at hym
      rw [hym, sizeP_0, sz i] at hp
      have : (v.getD i 0).natAbs ≠ 0 := by
        rw [hx] at hz; omega
      omega

theorem press_sign {v : List Int} {seed : Int} {n : List Int} (h0 : 0 < v.length) (h4 : v.length ≤ 4096) : pressP (⟨3, 0, 0⟩ : T_api_How) v seed n = if (meanV v).2 ≠ 0 then (zeroS, (meanV v).2) else ((⟨3, (v.length : Int), [], [], (meanV v).1, 0, [], v.map fun x => decide (x < 0)⟩ : T_api_Sent), 0) := by
  have hw : ¬ ¬ wayOk (⟨3, 0, 0⟩ : T_api_How) (v.length : Int) := fun h => h ⟨⟨by omega, by omega⟩, .inr (.inr (.inr ⟨rfl, rfl, rfl⟩))⟩
  have n0 : ¬ (⟨3, 0, 0⟩ : T_api_How).F_Scheme = 0 := by simp
  have n1 : ¬ (⟨3, 0, 0⟩ : T_api_How).F_Scheme = 1 := by simp
  have n2 : ¬ (⟨3, 0, 0⟩ : T_api_How).F_Scheme = 2 := by simp
  rw [pressP, if_neg (by omega), if_neg hw, if_neg n0, if_neg n1, if_neg n2]
theorem loosen_sign {m d : Int} {l : List Bool} (hm : 0 ≤ m) (h0 : 0 < d) (h4 : d ≤ 4096) (hl : (l.length : Int) = d) : loosenP (⟨3, d, [], [], m, 0, [], l⟩ : T_api_Sent) = (l.map (negIf m), 0) := by
  have n0 : ¬ (⟨3, d, [], [], m, 0, [], l⟩ : T_api_Sent).F_Scheme = 0 := by simp
  have n1 : ¬ (⟨3, d, [], [], m, 0, [], l⟩ : T_api_Sent).F_Scheme = 1 := by simp
  have n2 : ¬ (⟨3, d, [], [], m, 0, [], l⟩ : T_api_Sent).F_Scheme = 2 := by simp
  rw [loosenP, if_pos (may_iff.2 (.sign h0 h4 rfl hm hl (by simp))), loosenS, if_neg n0, if_neg n1, if_neg n2]
theorem sumA_neg (m : Int) (hm : 0 ≤ m) : ∀ l : List Bool, sumA (l.map (negIf m)) = m * l.length
  | [] => by simp [sumA]
  | b :: l => by
    rw [List.map_cons, sumA_cons, sumA_neg m hm l, List.length_cons]
    have : ((negIf m b).natAbs : Int) = m := by unfold negIf; split <;> omega
    rw [this]; push_cast; rw [Int.mul_add]; omega
/-- Signs of signs. -/
theorem sign_again {m : Int} (l : List Bool) (hm : 0 ≤ m) : ((l.map (negIf m)).map fun x => decide (x < 0)).map (negIf m) = l.map (negIf m) := by
  rw [List.map_map, List.map_map]
  apply List.map_congr_left
  intro b _
  simp only [Function.comp]
  unfold negIf
  cases b
  · simp only [Bool.false_eq_true, if_false]
    rw [if_neg (by simp; omega)]
  · simp only [if_true]
    by_cases h : m = 0
    · subst h; simp
    · rw [if_pos (by simp; omega)]
theorem meanV_sum {v : List Int} (h : (meanV v).2 = 0) : 0 < v.length ∧ J64 (sumA v) ∧ (meanV v).1 * v.length ≤ sumA v := by
  unfold meanV at *
  split at h
  · simp at h
  rename_i h0
  rw [if_neg h0]
  simp only at h ⊢
  unfold sizeV at *
  split at h
  · simp at h
  rename_i h1
  rw [if_neg h1]
  split at h
  · rename_i h2
    rw [if_pos h2]
    refine ⟨by omega, h2, ?_⟩
    have := sumA_nonneg v
    obtain ⟨k, hk⟩ : ∃ k : Nat, sumA v = (k : Int) := ⟨(sumA v).toNat, by omega⟩
    simp only [hk]
    rw [show Int.tdiv (k : Int) (v.length : Int) = ((k / v.length : Nat) : Int) from rfl]
    have := Nat.div_mul_le_self k v.length
    exact_mod_cast this
  · simp at h
theorem meanV_neg {m : Int} {l : List Bool} (hm : 0 ≤ m) (h0 : 0 < l.length) (h4 : l.length ≤ 4096) (hs : J64 (m * l.length)) : meanV (l.map (negIf m)) = (m, 0) := by
  rw [meanV, if_neg (by rw [List.length_map]; omega), sizeV, if_neg (by rw [List.length_map]; omega), sumA_neg m hm, if_pos hs]
  simp only [List.length_map]
  rw [Int.mul_tdiv_cancel _ (by omega)]

theorem again_step {h : T_api_How} {v : List Int} {seed : Int} (hi : I64s v) (hn2 : h.F_Scheme ≠ 2) (h0 : (pressP h v seed []).2 = 0) :
    (loosenP (pressP h v seed []).1).2 = 0 ∧ (pressP h (loosenP (pressP h v seed []).1).1 (IntKind.u64.wrap (seed + 1)) []).2 = 0 ∧ loosenP (pressP h (loosenP (pressP h v seed []).1).1 (IntKind.u64.wrap (seed + 1)) []).1 = loosenP (pressP h v seed []).1 := by
  obtain ⟨_, _, _, hw⟩ := press_may hi h0
  obtain ⟨hd, hw⟩ := hw
  have hpos : 0 < v.length ∧ v.length ≤ 4096 := by omega
  rcases hw with ⟨a, b, c⟩ | ⟨a, b, b2, c⟩ | ⟨a, _⟩ | ⟨a, b, c⟩
  · have hh : h = ⟨0, 0, 0⟩ := by obtain ⟨x, y, z⟩ := h; simp only at a b c; rw [a, b, c]
    subst hh
    rw [press_dense hpos.1 hpos.2]
    simp only
    rw [loosen_dense hpos.1 hpos.2]
    simp only
    rw [press_dense hpos.1 hpos.2]
    simp only
    exact ⟨trivial, trivial, loosen_dense hpos.1 hpos.2⟩
  · obtain ⟨k, hk⟩ : ∃ k : Nat, h.F_K = (k : Int) := ⟨h.F_K.toNat, by omega⟩
    have hh : h = ⟨1, (k : Int), 0⟩ := by obtain ⟨x, y, z⟩ := h; simp only at a hk c; rw [a, hk, c]
    subst hh
    simp only at b2
    have hl := topV_len k v
    rw [press_top hpos.1 hpos.2 (by omega)]
    simp only
    rw [loosen_top hpos.1 hpos.2]
    simp only
    rw [press_top (v := topV k v) (by omega) (by omega) (by omega)]
    simp only
    rw [loosen_top (v := topV k v) (by omega) (by omega), topV_again hi]
    exact ⟨trivial, trivial, rfl⟩
  · exact absurd a hn2
  · have hh : h = ⟨3, 0, 0⟩ := by obtain ⟨x, y, z⟩ := h; simp only at a b c; rw [a, b, c]
    subst hh
    rw [press_sign hpos.1 hpos.2] at *
    by_cases he : (meanV v).2 ≠ 0
    · rw [if_pos he] at h0; exact absurd h0 he
    rw [if_neg he] at *
    have hm := meanV_in v
    obtain ⟨q1, q2, q3⟩ := meanV_sum (v := v) (by simpa using he)
    have hs0 : 0 ≤ (meanV v).1 * v.length := Int.mul_nonneg hm.1 (by omega)
    simp only
    rw [loosen_sign hm.1 (by omega) (by omega) (by simp)]
    simp only
    have hmn := meanV_neg (m := (meanV v).1) (l := v.map fun x => decide (x < 0)) hm.1 (by simpa using hpos.1) (by simpa using hpos.2) (by
      rw [List.length_map]
      unfold J64 at *; omega)
    rw [press_sign (by simpa using hpos.1) (by simpa using hpos.2), hmn, if_neg (by simp)]
    simp only
    refine ⟨trivial, trivial, ?_⟩
    rw [loosen_sign hm.1 (by simp only [List.length_map]; omega) (by simp only [List.length_map]; omega) (by simp), sign_again _ hm.1]

theorem loosen_len {s : T_api_Sent} (hm : MayS s) : ((loosenP s).1.length : Int) = s.F_Dim := by
  rw [loosenP, if_pos (may_iff.2 hm)]
  simp only
  rw [loosenS]
  rcases hm with ⟨d0, d1, h, v, z⟩ | ⟨d0, d1, h, c, v, z⟩ | ⟨d0, d1, h, w0, w1, l, x, c, n, z⟩ | ⟨d0, d1, h, c, n, z⟩
  · rw [if_pos h]; omega
  · have n0 : ¬ s.F_Scheme = 0 := by omega
    rw [if_neg n0, if_pos h, spreadG_len, List.length_replicate]; omega
  · have n0 : ¬ s.F_Scheme = 0 := by omega
    have n1 : ¬ s.F_Scheme = 1 := by omega
    rw [if_neg n0, if_neg n1, if_pos h, List.length_zipWith]; omega
  · have n0 : ¬ s.F_Scheme = 0 := by omega
    have n1 : ¬ s.F_Scheme = 1 := by omega
    have n2 : ¬ s.F_Scheme = 2 := by omega
    rw [if_neg n0, if_neg n1, if_neg n2, List.length_map]; omega
theorem PressAgain_true (h : T_api_How) (v : List Int) (seed : Int) (hlen : v.length ≤ 100000000000000) (hi : I64s v) : M_thrumlaw12_PressAgain h v seed = some true := by
  obtain ⟨b, hb1, hb2⟩ := few12_eq [] [v] (by simp)
  rw [M_thrumlaw12_PressAgain, live12_eq, bindS, if_neg (by simp), hb1, bindS, orB, orB]
  by_cases hc : (decide ((decide (b = false) || decide ((v.length : Int) > 200)) = true) || (h.F_Scheme == 2)) = true
  · rw [if_pos hc]
  rw [if_neg hc]
  have hn2 : h.F_Scheme ≠ 2 := fun e => by simp [e] at hc
  clear hc hb1 hb2
  rw [Press_eq hi (by simp), bindS]
  have hE : (sentT (pressP h v seed [])).2.2.2.2.2.2.2.2 = (pressP h v seed []).2 := rfl
  rw [hE]
  by_cases he : (pressP h v seed []).2 ≠ 0
  · rw [if_pos he]
  rw [if_neg he]
  have he : (pressP h v seed []).2 = 0 := by simpa using he
  obtain ⟨q1, q2, q3⟩ := again_step hi hn2 he
  have hF := press_fits (h := h) (seed := seed) (n := []) hi
  have hJ := loosen_J hF
  have hF2 := press_fits (h := h) (seed := IntKind.u64.wrap (seed + 1)) (n := []) hJ
  have hL : M_press_Loosen (⟨(sentT (pressP h v seed [])).1, (sentT (pressP h v seed [])).2.1, (sentT (pressP h v seed [])).2.2.1, (sentT (pressP h v seed [])).2.2.2.1, (sentT (pressP h v seed [])).2.2.2.2.1, (sentT (pressP h v seed [])).2.2.2.2.2.1, (sentT (pressP h v seed [])).2.2.2.2.2.2.1, (sentT (pressP h v seed [])).2.2.2.2.2.2.2.1⟩ : T_api_Sent) = some (loosenP (pressP h v seed []).1) := Loosen_eq hF
  rw [hL, bindS, Press_eq hJ (by simp), bindS]
  have hE2 : (sentT (pressP h (loosenP (pressP h v seed []).1).1 (IntKind.u64.wrap (seed + 1)) [])).2.2.2.2.2.2.2.2 = (pressP h (loosenP (pressP h v seed []).1).1 (IntKind.u64.wrap (seed + 1)) []).2 := rfl
  rw [hE2, orB, q1, q2]
  rw [show (decide ((0 : Int) ≠ 0) || ((0 : Int) != 0)) = false from rfl, if_neg Bool.false_ne_true]
  have hL2 : M_press_Loosen (⟨(sentT (pressP h (loosenP (pressP h v seed []).1).1 (IntKind.u64.wrap (seed + 1)) [])).1, (sentT (pressP h (loosenP (pressP h v seed []).1).1 (IntKind.u64.wrap (seed + 1)) [])).2.1, (sentT (pressP h (loosenP (pressP h v seed []).1).1 (IntKind.u64.wrap (seed + 1)) [])).2.2.1, (sentT (pressP h (loosenP (pressP h v seed []).1).1 (IntKind.u64.wrap (seed + 1)) [])).2.2.2.1, (sentT (pressP h (loosenP (pressP h v seed []).1).1 (IntKind.u64.wrap (seed + 1)) [])).2.2.2.2.1, (sentT (pressP h (loosenP (pressP h v seed []).1).1 (IntKind.u64.wrap (seed + 1)) [])).2.2.2.2.2.1, (sentT (pressP h (loosenP (pressP h v seed []).1).1 (IntKind.u64.wrap (seed + 1)) [])).2.2.2.2.2.2.1, (sentT (pressP h (loosenP (pressP h v seed []).1).1 (IntKind.u64.wrap (seed + 1)) [])).2.2.2.2.2.2.2.1⟩ : T_api_Sent) = some (loosenP (pressP h (loosenP (pressP h v seed []).1).1 (IntKind.u64.wrap (seed + 1)) []).1) := Loosen_eq hF2
  rw [hL2, bindS, q3, q1]
  have hlen2 : (loosenP (pressP h v seed []).1).1.length ≤ 4611686018427387904 := by
    obtain ⟨hm, _, hdim, hwo⟩ := press_may hi he
    have hd : v.length ≤ 4096 := by have := hwo.1; omega
    have := loosen_len hm
    omega
  rw [vSame_eq _ _ hlen2]
  simp [bindS]
end Go.Proofs.YtdgdgfckcnjpfaaGreat.Abs
