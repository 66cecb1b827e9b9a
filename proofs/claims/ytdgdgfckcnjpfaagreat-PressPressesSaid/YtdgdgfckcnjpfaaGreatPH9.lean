/- Plain facts: what the document picks, and presses. Conditions: none. -/
import Derived.Test.YtdgdgfckcnjpfaaGreatPH8
namespace Go.Proofs.YtdgdgfckcnjpfaaGreat.Abs
open Go Go.RowKit Go.IntWalk
set_option linter.unusedVariables false
set_option linter.unusedSimpArgs false
set_option linter.unusedSectionVars false
set_option maxRecDepth 100000

theorem refPick_eq (k0 : Int) (v : List Int) (hi : I64s v) (hv : v.length ≤ 600 ∨ 4096 < v.length) : ∃ r, M_topk_Pick k0 v = some r ∧ M_thrumref09_Pick k0 v = some r ∧ r.1.length ≤ v.length ∧ (∀ n ∈ r.1, 0 ≤ n ∧ n < (v.length : Int)) ∧ rising r.1 = true := by
  by_cases h4 : 4096 < v.length
  · refine ⟨([], 3), Pick_long k0 v h4, ?_, by simp, by simp, rfl⟩
    rw [M_thrumref09_Pick, M_thrumref09_Order, if_pos (by omega), bindS]
    rfl
  · have hl := orderL_len v
    by_cases hk : k0 < 0 ∨ (v.length : Int) < k0
    · refine ⟨([], 1), Pick_bad k0 v (by omega) hk, ?_, by simp, by simp, rfl⟩
      rw [M_thrumref09_Pick, refOrder_eq v hi (by omega), bindS]
      simp only
      rw [if_neg (by simp), orB, if_pos (by simp; omega)]
    · obtain ⟨k, rfl⟩ : ∃ k : Nat, k0 = k := ⟨k0.toNat, by omega⟩
      obtain ⟨pk, lk⟩ := Pick_ok k v (by omega) (by omega)
      refine ⟨(pickP k v, 0), pk, ?_, by simp only; omega, fun n hn => by obtain ⟨i, h1, rfl, _⟩ := (pick_mem k v n).1 hn; omega, pickP_rising k v⟩
      have hcut : cut' ((orderL v).map T_topk_one.F_place) none (some (k : Int)) = ((orderL v).take k).map T_topk_one.F_place := by simp [cut', List.map_take]
      have hK : Kept (onesP v) ((orderL v).take k) ((orderL v).drop k) k := by
        refine ⟨by rw [List.take_append_drop]; exact (orderL_perm v).symm, by rw [List.length_take, hl, onesP, oneF_len], fun x hx y hy => ?_⟩
        have hpw := orderL_pw v
        rw [← List.take_append_drop k (orderL v), List.pairwise_append] at hpw
        exact bh_asym (hpw.2.2 x hx y hy)
      have hs := sorted_places (by omega) hK
      have hM := refMerge_eq [((orderL v).take k).map T_topk_one.F_place] (by simp; omega) (by simp) (by simp; omega)
      have hmp : mergeP [((orderL v).take k).map T_topk_one.F_place].flatten = pickP k v := by
        obtain ⟨m1, m2⟩ := mergeP_facts [((orderL v).take k).map T_topk_one.F_place].flatten
        refine rising_ext m1 (pickP_rising k v) fun n => ?_
        rw [m2, ← hs, List.mem_mergeSort]
        simp
      rw [M_thrumref09_Pick, refOrder_eq v hi (by omega), bindS]
      simp only
      rw [if_neg (by simp), orB, if_neg (by simp; omega), if_pos (by simp only [cutOk, Option.getD_none, Option.getD_some, List.length_map]; omega), hcut, hM, bindS, hmp]
end Go.Proofs.YtdgdgfckcnjpfaaGreat.Abs
