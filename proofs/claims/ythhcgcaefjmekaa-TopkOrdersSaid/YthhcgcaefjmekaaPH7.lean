/- Plain facts: an order has each place once, greater numbers first. Conditions: none. -/
import Derived.Test.YthhcgcaefjmekaaPHb
import Derived.Test.YthhcgcaefjmekaaPHm
namespace Go.Proofs.Ythhcgcaefjmekaa.Abs
open Go Go.RowKit Go.IntWalk
set_option linter.unusedVariables false
set_option linter.unusedSimpArgs false
set_option linter.unusedSectionVars false
set_option maxRecDepth 100000

theorem oneLe_iff (a b : T_topk_one) : oneLe a b = true ↔ ¬ bh a b := by
  unfold oneLe bh
  rw [Bool.not_eq_true', decide_eq_false_iff_not]
def orderL (v : List Int) : List T_topk_one := (onesP v).mergeSort oneLe
theorem orderL_perm (v : List Int) : (orderL v).Perm (onesP v) := List.mergeSort_perm _ _
theorem orderL_pw (v : List Int) : (orderL v).Pairwise (fun a b => bh b a) := by
  have h1 : (orderL v).Pairwise (fun a b => oneLe a b = true) := List.pairwise_mergeSort (fun a b c h1 h2 => by
    rw [oneLe_iff] at *
    exact bh_ntr h1 h2) (fun a b => by
    rw [Bool.or_eq_true, oneLe_iff, oneLe_iff]
    by_cases h : bh a b
    · exact .inr (bh_asym h)
    · exact .inl h) _
  have h2 : (orderL v).Nodup := (orderL_perm v).nodup_iff.2 (ones_nodup v)
  refine (h1.and h2).imp fun {a b} hab => ?_
  have h3 := (oneLe_iff a b).1 hab.1
  by_cases h : bh b a
  · exact h
  · exact absurd (bh_tot h3 h) hab.2
theorem Order_eq (v : List Int) (hv : v.length ≤ 4096) : M_topk_Order v = some ((orderL v).map T_topk_one.F_place, 0) := by
  have hl : (onesP v).length = v.length := oneF_len 0 v
  have hl2 : (orderL v).length = v.length := by rw [(orderL_perm v).length_eq, hl]
  rw [M_topk_Order, if_neg (by omega), ones_eq v (by omega), bindS, M_slices_SortFunc_one, if_pos (by omega), bindS]
  rw [show (onesP v).mergeSort oneLe = orderL v from rfl, places_eq _ (by omega), bindS]
theorem order_at {v : List Int} {x : T_topk_one} (h : x ∈ orderL v) : ∃ i : Nat, i < v.length ∧ x = oneAt v i := by
  obtain ⟨i, hi, e⟩ := (oneF_mem v 0 x).1 ((orderL_perm v).mem_iff.1 h)
  exact ⟨i, hi, by rw [e, Nat.zero_add]; rfl⟩

theorem Or_l0 (a0 : Int) (v : List Int) (hi : I64s v) (hv : v.length ≤ 4096) : ∀ (t : List T_topk_one) (k : Nat), (orderL v).drop k = t → M_thrumlaw09_TopkOrders_l0 a0 v true ((orderL v).map T_topk_one.F_place, 0) (k : Int) = some (.inr ())
  | [], k, h => by
    have : ((orderL v).map T_topk_one.F_place).drop k = [] := by rw [← List.map_drop, h]; rfl
    rw [M_thrumlaw09_TopkOrders_l0]
    simp only
    rw [if_neg (drop_end this)]
  | x :: t, k, h => by
    have hl : (orderL v).length = v.length := by rw [(orderL_perm v).length_eq]; exact oneF_len 0 v
    have hm : ((orderL v).map T_topk_one.F_place).drop k = x.F_place :: t.map T_topk_one.F_place := by rw [← List.map_drop, h]; rfl
    obtain ⟨h1, h2, h3⟩ := drop_at hm
    obtain ⟨g1, g2, g3⟩ := drop_at h
    have hx : x ∈ orderL v := by
      have : x ∈ (orderL v).drop k := by rw [h]; simp
      exact List.mem_of_mem_drop this
    obtain ⟨i, hiv, rfl⟩ := order_at hx
    have ih := Or_l0 a0 v hi hv t (k + 1) g3
    rw [M_thrumlaw09_TopkOrders_l0]
    simp only
    have hp : (oneAt v i).F_place = (i : Int) := rfl
    rw [if_pos h1, if_pos ⟨by omega, h1⟩, h2, hp, orB, if_neg (by simp; omega)]
    by_cases hk : (k : Int) > 0
    rotate_left
    · rw [if_neg hk, i64_s (by omega), ih]
    · obtain ⟨j, rfl⟩ : ∃ j, k = j + 1 := ⟨k - 1, by omega⟩
      have w : IntKind.i64.wrap (((j + 1 : Nat) : Int) - 1) = (j : Int) := by rw [i64_in _ (by omega)]; omega
      have hj : j < (orderL v).length := by omega
      obtain ⟨m, hmv, em⟩ := order_at (List.getElem_mem hj)
      have hat : at' ((orderL v).map T_topk_one.F_place) (j : Int) = (m : Int) := by
        rw [at'_nat]
        simp only [List.getD_eq_getElem?_getD, List.getElem?_map, List.getElem?_eq_getElem hj, Option.map_some, Option.getD_some, em]
        rfl
      have hx2 : (orderL v)[j + 1]'(by omega) = oneAt v i := by
        have := List.drop_eq_getElem_cons (l := orderL v) (i := j + 1) (by omega)
        rw [h] at this
        exact (List.cons.inj this).1.symm
      have hb := List.pairwise_iff_getElem.1 (orderL_pw v) j (j + 1) hj (by omega) (by omega)
      rw [em, hx2] at hb
      rw [if_pos hk, w, if_pos ⟨by omega, by rw [List.length_map]; omega⟩, hat, Ahead_eq hi hmv hiv, bindS, decide_eq_true hb, if_neg (by simp), i64_s (by omega), ih]

theorem TopkOrders_true (k0 : Int) (v : List Int) (hi : I64s v) : M_thrumlaw09_TopkOrders k0 v = some true := by
  obtain ⟨b, hb1, hb2⟩ := few9_eq v
  rw [M_thrumlaw09_TopkOrders, live9_eq, bindS, if_neg (by simp), hb1, bindS]
  cases b with
  | false => rw [if_pos rfl]
  | true =>
  rw [if_neg (by simp)]
  by_cases hv : 4096 < v.length
  · have : M_topk_Order v = some ([], 3) := by rw [M_topk_Order, if_pos (by omega)]
    rw [this, bindS]
    simp only
    rw [if_pos (by simp), if_true, bindS]
    simp; omega
  have hl : (orderL v).length = v.length := by rw [(orderL_perm v).length_eq]; exact oneF_len 0 v
  rw [Order_eq v (by omega), bindS]
  simp only
  rw [if_neg (by simp), if_neg (by simp [hl])]
  have g0 := Or_l0 k0 v hi (by omega) (orderL v) 0 rfl
  rw [show ((0 : Nat) : Int) = 0 from rfl] at g0
  rw [g0, bindS]
  simp only
  by_cases hk : k0 < 0 ∨ (v.length : Int) < k0
  · rw [Pick_bad k0 v (by omega) hk, bindS]
    simp
  obtain ⟨k, rfl⟩ : ∃ k : Nat, k0 = k := ⟨k0.toNat, by omega⟩
  obtain ⟨pk, lk⟩ := Pick_ok k v (by omega) (by omega)
  rw [pk, bindS]
  simp only
  rw [if_neg (by simp), if_true, bindS, List.length_map, hl, if_pos (by simp), bindS, if_pos (by simp; omega)]
  have hcut : cut' ((orderL v).map T_topk_one.F_place) none (some (k : Int)) = ((orderL v).take k).map T_topk_one.F_place := by simp [cut', List.map_take]
  have hK : Kept (onesP v) ((orderL v).take k) ((orderL v).drop k) k := by
    refine ⟨by rw [List.take_append_drop]; exact (orderL_perm v).symm, by rw [List.length_take, hl, onesP, oneF_len], fun x hx y hy => ?_⟩
    have hpw := orderL_pw v
    rw [← List.take_append_drop k (orderL v), List.pairwise_append] at hpw
    exact bh_asym (hpw.2.2 x hx y hy)
  have hs := sorted_places (by omega) hK
  have hM := Merge_eq [((orderL v).take k).map T_topk_one.F_place] (by simp) (by simp; omega)
  have hmp : mergeP [((orderL v).take k).map T_topk_one.F_place].flatten = pickP k v := by
    obtain ⟨m1, m2⟩ := mergeP_facts [((orderL v).take k).map T_topk_one.F_place].flatten
    refine rising_ext m1 (pickP_rising k v) fun n => ?_
    rw [m2, ← hs, List.mem_mergeSort]
    simp
  rw [if_pos (by simp only [cutOk, Option.getD_none, Option.getD_some, List.length_map]; omega), hcut, hM, bindS, hmp, Equal_eq _ _ (by omega), bindS, bindS]
  simp
end Go.Proofs.Ythhcgcaefjmekaa.Abs
