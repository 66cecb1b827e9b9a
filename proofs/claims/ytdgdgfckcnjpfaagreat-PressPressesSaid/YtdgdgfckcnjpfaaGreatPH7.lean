/- Plain facts: an order has each place once. Conditions: none. -/
import Derived.Test.YtdgdgfckcnjpfaaGreatPHb
import Derived.Test.YtdgdgfckcnjpfaaGreatPHm
namespace Go.Proofs.YtdgdgfckcnjpfaaGreat.Abs
open Go Go.RowKit Go.IntWalk
set_option linter.unusedVariables false
set_option linter.unusedSimpArgs false
set_option linter.unusedSectionVars false
set_option linter.unnecessarySimpa false
set_option maxRecDepth 100000
set_option linter.unusedSimpArgs false
set_option linter.unusedSectionVars false
set_option maxRecDepth 100000

def oneLe (a b : T_topk_one) : Bool := !decide (a.F_size < b.F_size ∨ (a.F_size = b.F_size ∧ b.F_place < a.F_place))
theorem oneLe_iff (a b : T_topk_one) : oneLe a b = true ↔ ¬ bh a b := by
  unfold oneLe bh
  rw [Bool.not_eq_true', decide_eq_false_iff_not]
def orderL (v : List Int) : List T_topk_one := (onesP v).mergeSort oneLe
theorem orderL_perm (v : List Int) : (orderL v).Perm (onesP v) := List.mergeSort_perm _ _
theorem orderL_pw (v : List Int) : (orderL v).Pairwise (fun a b => bh b a) := by
  have h1 : (orderL v).Pairwise (fun a b => oneLe a b = true) := List.pairwise_mergeSort (fun a b c h1 h2 => by
    rw [oneLe_iff] at *
    exact bh_ntr h1 h2) (fun a b => by
    rw [Bool.or_eq_true, oneLe_iff, oneLe_iff]
    by_cases h : bh a b
    · exact .inr (bh_asym h)
    · exact .inl h) _
  have h2 : (orderL v).Nodup := (orderL_perm v).nodup_iff.2 (ones_nodup v)
  refine (h1.and h2).imp fun {a b} hab => ?_
  have h3 := (oneLe_iff a b).1 hab.1
  by_cases h : bh b a
  · exact h
  · exact absurd (bh_tot h3 h) hab.2
theorem order_at {v : List Int} {x : T_topk_one} (h : x ∈ orderL v) : ∃ i : Nat, i < v.length ∧ x = oneAt v i := by
  obtain ⟨i, hi, e⟩ := (oneF_mem v 0 x).1 ((orderL_perm v).mem_iff.1 h)
  exact ⟨i, hi, by rw [e, Nat.zero_add]; rfl⟩
end Go.Proofs.YtdgdgfckcnjpfaaGreat.Abs
