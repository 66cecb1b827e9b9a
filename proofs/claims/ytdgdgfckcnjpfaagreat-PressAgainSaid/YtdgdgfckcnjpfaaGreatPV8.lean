/- Plain facts: of all numbers nothing is left, of none all; of one more of the greatest no more. Conditions: none. -/
import Derived.Test.YtdgdgfckcnjpfaaGreatPV6
namespace Go.Proofs.YtdgdgfckcnjpfaaGreat.Abs
open Go Go.RowKit Go.IntWalk
set_option linter.unusedVariables false
set_option linter.unusedSimpArgs false
set_option linter.unnecessarySimpa false
set_option maxRecDepth 100000

theorem spread_list (v p : List Int) (hp : ∀ n ∈ p, 0 ≤ n ∧ n < (v.length : Int)) : spreadG (List.replicate v.length 0) p (p.map (at' v)) = (List.range v.length).map fun i => if ((i : Nat) : Int) ∈ p then v.getD i 0 else 0 := by
  apply List.ext_getElem
  · rw [spreadG_len]; simp
  · intro i h1 h2
    have hi : i < v.length := by rw [spreadG_len] at h1; simpa using h1
    have h := spread_map (at' v) p (List.replicate v.length 0) (fun n hn => by simpa using hp n hn) (i : Int) (by omega)
    rw [at'_nat, at'_nat, at'_nat] at h
    rw [List.getElem_map, List.getElem_range]
    rw [List.getD_eq_getElem?_getD, List.getElem?_eq_getElem h1] at h
    simp only [Option.getD_some] at h
    rw [h]
    split
    · rfl
    · rw [List.getD_eq_getElem?_getD, List.getElem?_replicate]
      rw [if_pos hi]; rfl
theorem list_range (v : List Int) : v = (List.range v.length).map fun i => v.getD i 0 := by
  apply List.ext_getElem
  · simp
  · intro i h1 h2
    simp [List.getD_eq_getElem?_getD, List.getElem?_eq_getElem h1]
theorem press_dense {v : List Int} {seed : Int} {n : List Int} (h0 : 0 < v.length) (h4 : v.length ≤ 4096) : pressP (⟨0, 0, 0⟩ : T_api_How) v seed n = ((⟨0, (v.length : Int), [], v, 0, 0, [], []⟩ : T_api_Sent), 0) := by
  have hw : ¬ ¬ wayOk (⟨0, 0, 0⟩ : T_api_How) (v.length : Int) := fun h => h ⟨⟨by omega, by omega⟩, .inl ⟨rfl, rfl, rfl⟩⟩
  rw [pressP, if_neg (by omega), if_neg hw, if_pos rfl]
theorem press_top {v : List Int} {k : Nat} {seed : Int} {n : List Int} (h0 : 0 < v.length) (h4 : v.length ≤ 4096) (hk : k ≤ v.length) : pressP (⟨1, (k : Int), 0⟩ : T_api_How) v seed n = ((⟨1, (v.length : Int), pickP k v, (pickP k v).map (at' v), 0, 0, [], []⟩ : T_api_Sent), 0) := by
  have hw : ¬ ¬ wayOk (⟨1, (k : Int), 0⟩ : T_api_How) (v.length : Int) := fun h => h ⟨⟨by omega, by omega⟩, .inr (.inl ⟨rfl, by simp only; omega, by simp only; omega, rfl⟩)⟩
  have n0 : ¬ (⟨1, (k : Int), 0⟩ : T_api_How).F_Scheme = 0 := by simp
  rw [pressP, if_neg (by omega), if_neg hw, if_neg n0, if_pos rfl, Int.toNat_natCast]
theorem pick_in {v : List Int} {k : Nat} : ∀ n ∈ pickP k v, 0 ≤ n ∧ n < (v.length : Int) := fun n hn => by obtain ⟨i, h1, rfl, _⟩ := (pick_mem k v n).1 hn; omega
def topV (k : Nat) (v : List Int) : List Int := (List.range v.length).map fun i => if ((i : Nat) : Int) ∈ pickP k v then v.getD i 0 else 0
theorem loosen_dense {v : List Int} (h0 : 0 < v.length) (h4 : v.length ≤ 4096) : loosenP (⟨0, (v.length : Int), [], v, 0, 0, [], []⟩ : T_api_Sent) = (v, 0) := by
  rw [loosenP, if_pos (may_iff.2 (.dense (by simp only; omega) (by simp only; omega) rfl rfl (by simp))), loosenS, if_pos rfl]
theorem loosen_top {v : List Int} {k : Nat} (h0 : 0 < v.length) (h4 : v.length ≤ 4096) : loosenP (⟨1, (v.length : Int), pickP k v, (pickP k v).map (at' v), 0, 0, [], []⟩ : T_api_Sent) = (topV k v, 0) := by
  have hm : mayP (⟨1, (v.length : Int), pickP k v, (pickP k v).map (at' v), 0, 0, [], []⟩ : T_api_Sent) = true := may_iff.2 (.top (by simp only; omega) (by simp only; omega) rfl (placed_iff.2 ⟨by simp only [meas, Bool.and_eq_true, decide_eq_true_eq]; omega, pickP_rising _ v, pick_in⟩) (by simp) (by simp))
  have n0 : ¬ (⟨1, (v.length : Int), pickP k v, (pickP k v).map (at' v), 0, 0, [], []⟩ : T_api_Sent).F_Scheme = 0 := by simp
  rw [loosenP, if_pos hm, loosenS, if_neg n0, if_pos rfl]
  simp only [Int.toNat_natCast]
  rw [spread_list v _ pick_in, topV]
theorem getD_J {v : List Int} (hi : I64s v) (i : Nat) : J64 (v.getD i 0) := by
  rcases Nat.lt_or_ge i v.length with h | h
  · rw [List.getD_eq_getElem?_getD, List.getElem?_eq_getElem h]; exact hi _ (List.getElem_mem h)
  · rw [List.getD_eq_getElem?_getD, List.getElem?_eq_none h]; simp [J64]
end Go.Proofs.YtdgdgfckcnjpfaaGreat.Abs
