/- Plain facts: the samples that a worker sees; chapter 18's ConfTells. Conditions: none. -/
import Derived.Test.YtnmlihfpenjeiaaGreatPY4
namespace Go.Proofs.YtnmlihfpenjeiaaGreat.Abs
open Go Go.RowKit Go.IntWalk
set_option linter.unusedVariables false
set_option linter.unusedSimpArgs false
set_option linter.unnecessarySimpa false
set_option maxRecDepth 100000

theorem order_l0 (a b : Int) (l y : List Int) (hy : y.length ≤ 4096) : ∀ (j k : Nat) (x : List Int), k + j = y.length → x.length = y.length → ∃ r : List Int, M_draw_Order_l0 a b l y (k : Int) x = some r ∧ M_thrumref08_Order_l0 a b l y (k : Int) x = some r ∧ r.length = y.length
  | 0, k, x, e, hx => ⟨x, by rw [M_draw_Order_l0, if_neg (by omega)], by rw [M_thrumref08_Order_l0, if_neg (by omega)], hx⟩
  | j + 1, k, x, e, hx => by
    obtain ⟨r, h1, h2, h3⟩ := order_l0 a b l y hy j (k + 1) (x.set (Int.toNat (k : Int)) (k : Int)) (by omega) (by simpa using hx)
    exact ⟨r, by rw [M_draw_Order_l0, if_pos (by omega), if_pos (by omega), i64_s (by omega), h1], by rw [M_thrumref08_Order_l0, if_pos (by omega), if_pos (by omega), i64_s (by omega), h2], h3⟩
theorem order_l1 (seed : Int) (l : List Int) (hl : l.length ≤ 1000) : ∀ (j : Nat) (x : List Int), j ≤ 4096 → j ≤ x.length → ∃ r : List Int, M_draw_Order_l1 (l.foldl stirP seed) ((j : Int) - 1) x = some r ∧ M_thrumref08_Order_l1 seed l ((j : Int) - 1) x = some r ∧ r.length = x.length
  | 0, x, h4, hx => ⟨x, by rw [M_draw_Order_l1, if_neg (by omega)], by rw [M_thrumref08_Order_l1, if_neg (by omega)], rfl⟩
  | 1, x, h4, hx => ⟨x, by rw [M_draw_Order_l1, if_neg (by omega)], by rw [M_thrumref08_Order_l1, if_neg (by omega)], rfl⟩
  | j + 2, x, h4, hx => by
    have hj : (((j + 2 : Nat) : Int) - 1) = ((j + 1 : Nat) : Int) := by omega
    rw [hj]
    have hw : IntKind.u64.wrap (IntKind.i64.wrap (((j + 1 : Nat) : Int) + 1)) = ((j + 2 : Nat) : Int) := by rw [i64_in _ (by omega), u64_in _ (by omega)]; omega
    have hd := drawP_in seed (l ++ [((j + 1 : Nat) : Int)])
    have hfold : stirEnd (stirP (l.foldl stirP seed) ((j + 1 : Nat) : Int)) = drawP seed (l ++ [((j + 1 : Nat) : Int)]) := by simp [drawP]
    obtain ⟨k, hk, hk2⟩ : ∃ k : Nat, Int.tmod (drawP seed (l ++ [((j + 1 : Nat) : Int)])) ((j + 2 : Nat) : Int) = (k : Int) ∧ k < j + 2 := by
      have h1 := Int.tmod_nonneg ((j + 2 : Nat) : Int) hd.1
      have h2 := Int.tmod_lt_of_pos (drawP seed (l ++ [((j + 1 : Nat) : Int)])) (b := ((j + 2 : Nat) : Int)) (by omega)
      exact ⟨(Int.tmod (drawP seed (l ++ [((j + 1 : Nat) : Int)])) ((j + 2 : Nat) : Int)).toNat, by omega, by omega⟩
    have hwith : M_thrum_draw_stir_with (l.foldl stirP seed) ((j + 1 : Nat) : Int) = some (stirP (l.foldl stirP seed) ((j + 1 : Nat) : Int)) := by rw [M_thrum_draw_stir_with]; rfl
    have hend : M_thrum_draw_stir_end (stirP (l.foldl stirP seed) ((j + 1 : Nat) : Int)) = some (drawP seed (l ++ [((j + 1 : Nat) : Int)])) := by rw [← hfold, M_thrum_draw_stir_end]; rfl
    have hs : IntKind.i64.wrap (((j + 1 : Nat) : Int) - 1) = ((j + 1 : Nat) : Int) - 1 := i64_in _ (by omega)
    obtain ⟨r, h1, h2, h3⟩ := order_l1 seed l hl (j + 1) ((x.set (Int.toNat ((j + 1 : Nat) : Int)) (at' x (k : Int))).set (Int.toNat (k : Int)) (at' x ((j + 1 : Nat) : Int))) (by omega) (by simp; omega)
    refine ⟨r, ?_, ?_, by simpa using h3⟩
    · rw [M_draw_Order_l1, if_pos (by omega), hwith, bindS, hend, bindS, hw, if_pos (by omega), hk, if_pos (by omega), if_pos (by omega), if_pos (by omega), if_pos (by simp; omega), bindS, hs, h1]
    · rw [M_thrumref08_Order_l1, if_pos (by omega), if_pos (room8 (by omega)), if_pos (room8 (by simp; omega)), hw, r8Below_eq (by simp; omega) (by omega), bindS]
      simp only
      rw [hk, if_pos (by omega), if_pos (by omega), if_pos (by omega), bindS, if_pos (by simp; omega), bindS, hs, h2]
theorem order_eq (n : Nat) (seed : Int) (l : List Int) (hn : n ≤ 4096) (hl : l.length ≤ 1000) : ∃ r : List Int, M_draw_Order (n : Int) seed l = some (r, 0) ∧ M_thrumref08_Order (n : Int) seed l = some (r, 0) ∧ r.length = n := by
  obtain ⟨r, h1, h2, h3⟩ := order_l0 (n : Int) seed l (List.replicate (Int.toNat (n : Int)) 0) (by simp; omega) n 0 (List.replicate (Int.toNat (n : Int)) 0) (by simp) rfl
  have h3' : r.length = n := by simpa using h3
  obtain ⟨q, g1, g2, g3⟩ := order_l1 seed l hl n r hn (by omega)
  have ho := draw_l0 l (by omega) l 0 seed rfl
  rw [show ((0 : Nat) : Int) = 0 from rfl] at h1 h2 ho
  refine ⟨q, ?_, ?_, by omega⟩
  · rw [M_draw_Order, if_neg (by omega), if_neg (by omega), if_pos ⟨by omega, by omega, by omega, by omega⟩, bindS, h1, bindS, M_draw_over, ho, bindS, bindS, i64_in _ (by omega), g1, bindS]
  · rw [M_thrumref08_Order, if_neg (by omega), if_neg (by omega), if_pos ⟨by omega, by omega, by omega, by omega⟩, bindS, h2, bindS, i64_in _ (by omega), g2, bindS]
theorem picks_eq (c : T_api_Conf) (hl : c.F_L.length ≤ 4398046511000) (w s : Int) : ∃ r : List Int × Int, M_conf_Picks c w s = some r ∧ M_thrumref18_Picks c w s = some r ∧ r.1.length ≤ 256 := by
  rw [M_conf_Picks, M_thrumref18_Picks, at_eq c hl, r18Check_eq c hl, bindS, bindS]
  simp only [orB, within_eq, bindS]
  by_cases h : (0 ≤ s ∧ s ≤ 1073741824) ∧ confOk c
  rotate_left
  · rw [if_pos (by simp [h]), if_pos (by
      by_cases g : confOk c
      · rw [if_pos g]; simp [g] at h; simp; omega
      · rw [if_neg g]; simp)]
    exact ⟨_, rfl, rfl, by simp⟩
  have hN := h.2.2.2.1.1
  by_cases g : 0 ≤ w ∧ w < c.F_N
  rotate_left
  · rw [if_pos (by simp only [Bool.or_eq_true, decide_eq_true_eq]; right; rw [i64_in _ (by omega)]; simp; omega), if_pos (by simp; omega)]
    exact ⟨_, rfl, rfl, by simp⟩
  have hL := h.2.2.2.2.1
  rw [if_neg (by rw [i64_in _ (by omega)]; simp [h]; omega), if_neg (by rw [if_pos h.2]; simp; omega)]
  obtain ⟨r, h1, h2, h3⟩ := order_eq c.F_L.length c.F_Seed [w, s] (by omega) (by simp)
  rw [M_draw_Pick, M_thrumref08_Pick]
  simp only [orB]
  rw [if_neg (by simp; omega), if_neg (by simp; omega), h1, bindS, h2, bindS]
  simp only
  have hcut : cutOk none (some c.F_Batch) r.length := by unfold cutOk; simp only [Option.getD]; omega
  rw [if_neg (by simp), if_pos hcut, bindS]
  refine ⟨_, rfl, rfl, ?_⟩
  simp only [cut']
  have : ∀ q : List Int, q.length ≤ r.length → q.length ≤ 256 := fun q hq => by omega
  apply this
  simp
  omega

theorem ConfTells_true (c : T_api_Conf) (w s k : Int) (hl : c.F_L.length ≤ 4398046510976) : M_thrumlaw18_ConfTells c w s k = some true := by
  obtain ⟨q, f1, f2⟩ := few18_eq c (by omega)
  rw [M_thrumlaw18_ConfTells, live18_eq, bindS, if_neg (by simp), f1, bindS]
  cases q with
  | false => rw [if_pos rfl]
  | true =>
  obtain ⟨r, p1, p2, p3⟩ := picks_eq c (by omega) w s
  rw [if_neg (by simp), how_eq c (by omega), bindS, r18How_eq c (by omega), bindS, p1, bindS, p2, bindS, keep_eq, bindS, r18Keep_eq, bindS, if_pos rfl, confChk_eq c (by omega), bindS, r18Check_eq c (by omega), bindS, if_pos rfl, if_pos rfl, if_pos rfl, ref6Equal_eq _ _ (by omega), bindS, if_pos (by simp), if_pos rfl, if_pos rfl]
  simp
end Go.Proofs.YtnmlihfpenjeiaaGreat.Abs
