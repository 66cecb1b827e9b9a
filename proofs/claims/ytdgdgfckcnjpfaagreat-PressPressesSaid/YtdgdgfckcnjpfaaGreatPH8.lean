/- Plain facts: the document's order, what it picks, and presses. Conditions: none. -/
import Derived.Test.YtdgdgfckcnjpfaaGreatPH7
namespace Go.Proofs.YtdgdgfckcnjpfaaGreat.Abs
open Go Go.RowKit Go.IntWalk
set_option linter.unusedVariables false
set_option linter.unusedSimpArgs false
set_option linter.unusedSectionVars false
set_option maxRecDepth 100000

theorem oneF_range : ∀ (t : List Int) (k : Nat), oneF k t = (List.range t.length).map fun i => ⟨((k + i : Nat) : Int), sizeP (t.getD i 0)⟩
  | [], k => rfl
  | x :: t, k => by
    rw [oneF, oneF_range t (k + 1), List.length_cons, List.range_succ_eq_map, List.map_cons, List.map_map]
    simp only [Nat.add_zero, List.getD_cons_zero, List.cons.injEq, true_and]
    apply List.map_congr_left
    intro i _
    simp only [Function.comp_apply, Nat.succ_eq_add_one, List.getD_cons_succ]
    rw [show k + 1 + i = k + (i + 1) by omega]
theorem ones_range (v : List Int) : onesP v = (List.range v.length).map (oneAt v) := by
  rw [onesP, oneF_range]
  apply List.map_congr_left
  intro i _
  rw [Nat.zero_add]; rfl
theorem rank_range (v : List Int) (x : T_topk_one) : rank v x = (List.range v.length).countP fun k => decide (bh x (oneAt v k)) := by
  rw [rank, ones_range, List.countP_map]; rfl

theorem rO_l1 (v : List Int) (hi : I64s v) (hv : v.length ≤ 4096) (i : Nat) (hiv : i < v.length) (o : List Int) : ∀ (m k c : Nat), k + m = v.length → c ≤ k →
    M_thrumref09_Order_l1 v (i : Int) o (k : Int) (c : Int) = some ((c + (List.range' k m).countP (fun q => decide (bh (oneAt v i) (oneAt v q))) : Nat) : Int)
  | 0, k, c, hk, hc => by
    rw [M_thrumref09_Order_l1, if_neg (by omega)]; simp
  | m + 1, k, c, hk, hc => by
    rw [M_thrumref09_Order_l1, if_pos (by omega), Ahead_eq hi (by omega) hiv, bindS, i64_s (by omega), List.range'_succ, List.countP_cons]
    by_cases hb : bh (oneAt v i) (oneAt v k)
    · rw [if_pos (by simp [hb]), i64_s (by omega), rO_l1 v hi hv i hiv o m (k + 1) (c + 1) (by omega) (by omega), if_pos (by simp [hb])]
      congr 2; omega
    · rw [if_neg (by simp [hb]), rO_l1 v hi hv i hiv o m (k + 1) c (by omega) (by omega), if_neg (by simp [hb])]
      simp

theorem orderL_len (v : List Int) : (orderL v).length = v.length := by rw [(orderL_perm v).length_eq]; exact oneF_len 0 v
/-- A place stands at its rank. -/
theorem rank_orderL (v : List Int) (j : Nat) (hj : j < (orderL v).length) : rank v ((orderL v)[j]) = j := by
  have hpw := orderL_pw v
  rw [rank, ← (orderL_perm v).countP_eq]
  have hs : orderL v = (orderL v).take j ++ (orderL v)[j] :: (orderL v).drop (j + 1) := by
    rw [← List.drop_eq_getElem_cons hj, List.take_append_drop]
  generalize hx : (orderL v)[j] = x at *
  rw [hs, List.pairwise_append, List.pairwise_cons] at hpw
  rw [hs, List.countP_append, List.countP_cons, if_neg (by simp [bh_irr])]
  have h1 : ((orderL v).take j).countP (fun y => decide (bh x y)) = ((orderL v).take j).length := List.countP_eq_length.2 fun y hy => by simpa using hpw.2.2 y hy x (by simp)
  have h2 : ((orderL v).drop (j + 1)).countP (fun y => decide (bh x y)) = 0 := List.countP_eq_zero.2 fun y hy => by
    have := hpw.2.1.1 y hy
    simpa using bh_asym this
  rw [h1, h2, List.length_take]; omega

theorem rO_l0 (v : List Int) (hi : I64s v) (hv : v.length ≤ 4096) : ∀ (m i : Nat) (o : List Int), i + m = v.length → o.length = v.length → (∀ j (hj : j < (orderL v).length), (orderL v)[j].F_place < (i : Int) → o.getD j 0 = (orderL v)[j].F_place) →
    M_thrumref09_Order_l0 v (i : Int) o = some ((orderL v).map T_topk_one.F_place)
  | 0, i, o, hm, ho, h => by
    rw [M_thrumref09_Order_l0, if_neg (by omega)]
    congr 1
    have hl := orderL_len v
    apply List.ext_getElem (by rw [List.length_map]; omega)
    intro j h1 h2
    have hj : j < (orderL v).length := by omega
    obtain ⟨q, hq, e⟩ := order_at (List.getElem_mem hj)
    have := h j hj (by rw [e]; show (q : Int) < i; omega)
    rw [List.getD_eq_getElem?_getD, List.getElem?_eq_getElem h1] at this
    simpa using this
  | m + 1, i, o, hm, ho, h => by
    have hl := orderL_len v
    have hl1 := rO_l1 v hi hv i (by omega) o v.length 0 0 (by omega) (Nat.le_refl _)
    rw [show ((0 : Nat) : Int) = 0 from rfl, Nat.zero_add, ← List.range_eq_range', ← rank_range] at hl1
    -- where it stands
    obtain ⟨j, hj, e⟩ := List.getElem_of_mem ((orderL_perm v).mem_iff.2 (oneAt_mem (v := v) (i := i) (by omega)))
    have hr : rank v (oneAt v i) = j := by rw [← e]; exact rank_orderL v j hj
    rw [hr] at hl1
    rw [M_thrumref09_Order_l0, if_pos (by omega), hl1, bindS, if_pos ⟨by omega, by omega⟩, i64_s (by omega), Int.toNat_natCast]
    refine rO_l0 v hi hv m (i + 1) _ (by omega) (by simpa using ho) fun q hq hp => ?_
    by_cases hqj : q = j
    · subst hqj
      rw [List.getD_eq_getElem?_getD, List.getElem?_set_self (by omega), e]; rfl
    · have hne : (orderL v)[q].F_place ≠ (i : Int) := by
        intro hpe
        obtain ⟨a, ha, ea⟩ := order_at (List.getElem_mem hq)
        rw [ea] at hpe
        have : a = i := by have : (a : Int) = i := hpe; omega
        subst this
        have hr2 := rank_orderL v q hq
        rw [ea, hr] at hr2
        omega
      rw [List.getD_eq_getElem?_getD, List.getElem?_set_ne (fun e => hqj e.symm), ← List.getD_eq_getElem?_getD]
      exact h q hq (by push_cast at hp; omega)
theorem refOrder_eq (v : List Int) (hi : I64s v) (hv : v.length ≤ 4096) : M_thrumref09_Order v = some ((orderL v).map T_topk_one.F_place, 0) := by
  have h := rO_l0 v hi hv v.length 0 (List.replicate v.length 0) (by omega) (by simp) fun j hj hp => by
    obtain ⟨a, ha, ea⟩ := order_at (List.getElem_mem hj)
    rw [ea] at hp
    have : (a : Int) < 0 := hp
    omega
  rw [show ((0 : Nat) : Int) = 0 from rfl] at h
  rw [M_thrumref09_Order, if_neg (by omega), if_pos (by omega), bindS, Int.toNat_natCast, h, bindS]
end Go.Proofs.YtdgdgfckcnjpfaaGreat.Abs
