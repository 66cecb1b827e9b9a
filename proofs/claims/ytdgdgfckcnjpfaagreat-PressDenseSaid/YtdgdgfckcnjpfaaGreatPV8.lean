/- Plain facts: of all numbers nothing is left, of none all; of one more of the greatest no more. Conditions: none. -/
import Derived.Test.YtdgdgfckcnjpfaaGreatPV6
namespace Go.Proofs.YtdgdgfckcnjpfaaGreat.Abs
open Go Go.RowKit Go.IntWalk
set_option linter.unusedVariables false
set_option linter.unusedSimpArgs false
set_option linter.unnecessarySimpa false
set_option maxRecDepth 100000

theorem spread_list (v p : List Int) (hp : ∀ n ∈ p, 0 ≤ n ∧ n < (v.length : Int)) : spreadG (List.replicate v.length 0) p (p.map (at' v)) = (List.range v.length).map fun i => if ((i : Nat) : Int) ∈ p then v.getD i 0 else 0 := by
  apply List.ext_getElem
  · rw [spreadG_len]; simp
  · intro i h1 h2
    have hi : i < v.length := by rw [spreadG_len] at h1; simpa using h1
    have h := spread_map (at' v) p (List.replicate v.length 0) (fun n hn => by simpa using hp n hn) (i : Int) (by omega)
    rw [at'_nat, at'_nat, at'_nat] at h
    rw [List.getElem_map, List.getElem_range]
    rw [List.getD_eq_getElem?_getD, List.getElem?_eq_getElem h1] at h
    simp only [Option.getD_some] at h
    rw [h]
    split
    · rfl
    · rw [List.getD_eq_getElem?_getD, List.getElem?_replicate]
      rw [if_pos hi]; rfl
theorem zip_list (v : List Int) (f : Nat → Int) : List.zipWith (· - ·) v ((List.range v.length).map f) = (List.range v.length).map fun i => v.getD i 0 - f i := by
  apply List.ext_getElem
  · simp
  · intro i h1 h2
    simp at h1
    simp [List.getD_eq_getElem?_getD, List.getElem?_eq_getElem h1]
theorem list_range (v : List Int) : v = (List.range v.length).map fun i => v.getD i 0 := by
  apply List.ext_getElem
  · simp
  · intro i h1 h2
    simp [List.getD_eq_getElem?_getD, List.getElem?_eq_getElem h1]
theorem sumA_map_le {α : Type} (f g : α → Int) : ∀ l : List α, (∀ x ∈ l, (f x).natAbs ≤ (g x).natAbs) → sumA (l.map f) ≤ sumA (l.map g)
  | [], h => by simp
  | x :: t, h => by
    rw [List.map_cons, List.map_cons, sumA_cons, sumA_cons]
    have := h x (by simp)
    have := sumA_map_le f g t fun y hy => h y (by simp [hy])
    omega
theorem sumA_bound (B : Int) : ∀ v : List Int, (∀ x ∈ v, (x.natAbs : Int) ≤ B) → sumA v ≤ B * v.length
  | [], h => by simp [sumA]
  | x :: t, h => by
    rw [sumA_cons]
    have := h x (by simp)
    have := sumA_bound B t fun y hy => h y (by simp [hy])
    rw [List.length_cons]
    push_cast
    rw [Int.mul_add]
    omega

theorem press_dense {v : List Int} {seed : Int} {n : List Int} (h0 : 0 < v.length) (h4 : v.length ≤ 4096) : pressP (⟨0, 0, 0⟩ : T_api_How) v seed n = ((⟨0, (v.length : Int), [], v, 0, 0, [], []⟩ : T_api_Sent), 0) := by
  have hw : ¬ ¬ wayOk (⟨0, 0, 0⟩ : T_api_How) (v.length : Int) := fun h => h ⟨⟨by omega, by omega⟩, .inl ⟨rfl, rfl, rfl⟩⟩
  rw [pressP, if_neg (by omega), if_neg hw, if_pos rfl]
theorem press_top {v : List Int} {k : Nat} {seed : Int} {n : List Int} (h0 : 0 < v.length) (h4 : v.length ≤ 4096) (hk : k ≤ v.length) : pressP (⟨1, (k : Int), 0⟩ : T_api_How) v seed n = ((⟨1, (v.length : Int), pickP k v, (pickP k v).map (at' v), 0, 0, [], []⟩ : T_api_Sent), 0) := by
  have hw : ¬ ¬ wayOk (⟨1, (k : Int), 0⟩ : T_api_How) (v.length : Int) := fun h => h ⟨⟨by omega, by omega⟩, .inr (.inl ⟨rfl, by simp only; omega, by simp only; omega, rfl⟩)⟩
  have n0 : ¬ (⟨1, (k : Int), 0⟩ : T_api_How).F_Scheme = 0 := by simp
  rw [pressP, if_neg (by omega), if_neg hw, if_neg n0, if_pos rfl, Int.toNat_natCast]
theorem pick_in {v : List Int} {k : Nat} : ∀ n ∈ pickP k v, 0 ≤ n ∧ n < (v.length : Int) := fun n hn => by obtain ⟨i, h1, rfl, _⟩ := (pick_mem k v n).1 hn; omega
/-- What is left of a vector, but for the greatest. -/
def keepV (k : Nat) (v : List Int) : List Int := (List.range v.length).map fun i => if ((i : Nat) : Int) ∈ pickP k v then 0 else v.getD i 0
def topV (k : Nat) (v : List Int) : List Int := (List.range v.length).map fun i => if ((i : Nat) : Int) ∈ pickP k v then v.getD i 0 else 0
theorem loosen_dense {v : List Int} (h0 : 0 < v.length) (h4 : v.length ≤ 4096) : loosenP (⟨0, (v.length : Int), [], v, 0, 0, [], []⟩ : T_api_Sent) = (v, 0) := by
  rw [loosenP, if_pos (may_iff.2 (.dense (by simp only; omega) (by simp only; omega) rfl rfl (by simp))), loosenS, if_pos rfl]
theorem loosen_top {v : List Int} {k : Nat} (h0 : 0 < v.length) (h4 : v.length ≤ 4096) : loosenP (⟨1, (v.length : Int), pickP k v, (pickP k v).map (at' v), 0, 0, [], []⟩ : T_api_Sent) = (topV k v, 0) := by
  have hm : mayP (⟨1, (v.length : Int), pickP k v, (pickP k v).map (at' v), 0, 0, [], []⟩ : T_api_Sent) = true := may_iff.2 (.top (by simp only; omega) (by simp only; omega) rfl (placed_iff.2 ⟨by simp only [meas, Bool.and_eq_true, decide_eq_true_eq]; omega, pickP_rising _ v, pick_in⟩) (by simp) (by simp))
  have n0 : ¬ (⟨1, (v.length : Int), pickP k v, (pickP k v).map (at' v), 0, 0, [], []⟩ : T_api_Sent).F_Scheme = 0 := by simp
  rw [loosenP, if_pos hm, loosenS, if_neg n0, if_pos rfl]
  simp only [Int.toNat_natCast]
  rw [spread_list v _ pick_in, topV]
theorem getD_J {v : List Int} (hi : I64s v) (i : Nat) : J64 (v.getD i 0) := by
  rcases Nat.lt_or_ge i v.length with h | h
  · rw [List.getD_eq_getElem?_getD, List.getElem?_eq_getElem h]; exact hi _ (List.getElem_mem h)
  · rw [List.getD_eq_getElem?_getD, List.getElem?_eq_none h]; simp [J64]
theorem left_dense {v : List Int} (hi : I64s v) (h0 : 0 < v.length) (h4 : v.length ≤ 4096) : leftP v (⟨0, (v.length : Int), [], v, 0, 0, [], []⟩ : T_api_Sent) = ((List.range v.length).map fun _ => 0, 0) := by
  rw [leftP, loosen_dense h0 h4, if_neg (by simp)]
  have hz : List.zipWith (· - ·) v v = (List.range v.length).map fun _ => 0 := by
    conv => lhs; arg 3; rw [list_range v]
    rw [zip_list]
    congr 1
    funext i
    omega
  rw [vecP, if_neg (by simp only; omega), if_neg (by simp), zipOv]
  simp only
  rw [hz, if_pos (fun n hn => by
    obtain ⟨i, _, rfl⟩ := List.mem_map.1 hn
    simp [J64])]
theorem keepV_J {v : List Int} (hi : I64s v) (k : Nat) : I64s (keepV k v) := by
  intro n hn
  obtain ⟨i, _, rfl⟩ := List.mem_map.1 hn
  split
  · simp
  · exact getD_J hi i
theorem left_top {v : List Int} {k : Nat} (hi : I64s v) (h0 : 0 < v.length) (h4 : v.length ≤ 4096) : leftP v (⟨1, (v.length : Int), pickP k v, (pickP k v).map (at' v), 0, 0, [], []⟩ : T_api_Sent) = (keepV k v, 0) := by
  rw [leftP, loosen_top h0 h4, if_neg (by simp)]
  have hz : List.zipWith (· - ·) v (topV k v) = keepV k v := by
    rw [topV, zip_list, keepV]
    congr 1
    funext i
    split <;> omega
  have hl : (topV k v).length = v.length := by simp [topV]
  rw [vecP]
  simp only
  rw [if_neg (by omega), if_neg (by omega), zipOv, hz, if_pos (show ∀ n ∈ keepV k v, J64 n from keepV_J hi k)]
theorem keepV_le (k : Nat) (v : List Int) : sumA (keepV (k + 1) v) ≤ sumA (keepV k v) := by
  refine sumA_map_le _ _ _ fun i _ => ?_
  by_cases h : ((i : Nat) : Int) ∈ pickP k v
  · have : ((i : Nat) : Int) ∈ pickP (k + 1) v := by
      obtain ⟨j, a, b, c⟩ := (pick_mem k v _).1 h
      exact (pick_mem (k + 1) v _).2 ⟨j, a, b, by omega⟩
    simp [h, this]
  · rw [if_neg h]
    split <;> simp
theorem keepV_0 (v : List Int) : keepV 0 v = v := by
  conv => rhs; rw [list_range v]
  rw [keepV]
  congr 1
  funext i
  rw [if_neg]
  intro h
  obtain ⟨j, _, _, c⟩ := (pick_mem 0 v _).1 h
  omega
theorem keepV_size {v : List Int} (k : Nat) (B : Int) (hB : 0 ≤ B) (h : ∀ x ∈ v, (x.natAbs : Int) ≤ B) : sumA (keepV k v) ≤ B * v.length := by
  have := sumA_bound B (keepV k v) fun x hx => by
    obtain ⟨i, hi, rfl⟩ := List.mem_map.1 hx
    split
    · simpa using hB
    · have hi := List.mem_range.1 hi
      rw [List.getD_eq_getElem?_getD, List.getElem?_eq_getElem hi]
      exact h _ (List.getElem_mem hi)
  simpa [keepV] using this

theorem dense_l0 (v : List Int) (k : Int) (hl : v.length ≤ 1000000) : ∀ (t : List Int) (i : Nat), v.drop i = t → ∃ e, M_thrumlaw12_PressDense_l0 v k true (i : Int) = some e ∧ (e = .inl true ∨ e = .inr () ∧ ∀ n ∈ t, (n.natAbs : Int) ≤ 1125899906842624)
  | [], i, h1 => ⟨_, by rw [M_thrumlaw12_PressDense_l0, if_neg (drop_end h1)], .inr ⟨rfl, by simp⟩⟩
  | x :: t, i, h1 => by
    have g1 := drop_at h1
    rw [M_thrumlaw12_PressDense_l0, if_pos g1.1, if_pos (by omega), g1.2.1, orB]
    by_cases hc : (decide (x > 1125899906842624) || decide (x < -1125899906842624)) = true
    · rw [if_pos hc]; exact ⟨_, rfl, .inl rfl⟩
    · rw [if_neg hc, i64_s (by omega)]
      obtain ⟨e, h2, h3⟩ := dense_l0 v k hl t (i + 1) g1.2.2
      refine ⟨e, h2, ?_⟩
      rcases h3 with h3 | ⟨h3, h4⟩
      · exact .inl h3
      · refine .inr ⟨h3, fun n hn => ?_⟩
        rcases List.mem_cons.1 hn with rfl | hn
        · simp at hc; omega
        · exact h4 n hn
theorem PressDense_true (v : List Int) (k : Int) (hlen : v.length ≤ 100000000000000) (hi : I64s v) : M_thrumlaw12_PressDense v k = some true := by
  obtain ⟨b, hb1, hb2⟩ := few12_eq [] [v] (by simp)
  rw [M_thrumlaw12_PressDense, live12_eq, bindS, if_neg (by simp), hb1, bindS, orB, orB]
  by_cases hc : (decide ((decide (b = false) || ((v.length : Int) == 0)) = true) || decide ((v.length : Int) > 200)) = true
  · rw [if_pos hc]
  rw [if_neg hc]
  have hpos : 0 < v.length ∧ v.length ≤ 200 := by
    have h1 : ¬ v = [] := fun h => by simp [h] at hc
    have h2 : ¬ (v.length : Int) > 200 := fun h => by simp [h] at hc
    have := List.length_pos_iff.2 h1
    omega
  clear hc hb1 hb2
  obtain ⟨e, h2, h3⟩ := dense_l0 v k (by omega) v 0 rfl
  rw [show ((0 : Nat) : Int) = 0 from rfl] at h2
  rw [h2, bindS]
  rcases h3 with rfl | ⟨rfl, h4⟩
  · rfl
  simp only
  obtain ⟨L, hL⟩ : ∃ L : Nat, v.length = L := ⟨_, rfl⟩
  have hkk : ∃ q : Nat, q < v.length ∧ Int.tmod (IntKind.i64.wrap (Int.tmod k (v.length : Int) + (v.length : Int))) (v.length : Int) = (q : Int) := by
    have t1 := Int.tmod_lt_of_pos k (show (0 : Int) < (v.length : Int) by omega)
    have t2 := Int.lt_tmod_of_pos k (show (0 : Int) < (v.length : Int) by omega)
    rw [i64_in _ (by omega)]
    have hz : 0 ≤ Int.tmod k (v.length : Int) + (v.length : Int) := by omega
    generalize Int.tmod k (v.length : Int) + (v.length : Int) = z at *
    have t3 := Int.tmod_lt_of_pos z (show (0 : Int) < (v.length : Int) by omega)
    have t4 := Int.tmod_nonneg (v.length : Int) hz
    exact ⟨(Int.tmod z (v.length : Int)).toNat, by omega, by omega⟩
  obtain ⟨q, hq1, hq2⟩ := hkk
  have hb : (v.length : Int) ≤ 200 := by omega
  have hs : ∀ k, J64 (sumA (keepV k v)) := fun k => by
    have h := keepV_size (v := v) k 1125899906842624 (by omega) h4
    have := sumA_nonneg (keepV k v)
    unfold J64; omega
  have hlk : ∀ k, (keepV k v).length = v.length := fun k => by simp [keepV]
  have hz0 : sumA ((List.range v.length).map fun _ => (0 : Int)) = 0 := by
    have h := sumA_bound 0 ((List.range v.length).map fun _ => (0 : Int)) (fun x hx => by obtain ⟨i, _, rfl⟩ := List.mem_map.1 hx; simp)
    have := sumA_nonneg ((List.range v.length).map fun _ => (0 : Int))
    omega
  have hzl : ((List.range v.length).map fun _ => (0 : Int)).length = v.length := by simp
  have s0 : M_vec_Size ((List.range v.length).map fun _ => (0 : Int)) = some (0, 0) := by
    rw [vSize_eq (fun x hx => by obtain ⟨i, _, rfl⟩ := List.mem_map.1 hx; simp), sizeV, if_neg (by omega), hz0, if_pos (by unfold J64; omega)]
  have sk : ∀ k, M_vec_Size (keepV k v) = some (sumA (keepV k v), 0) := fun k => by
    rw [vSize_eq (keepV_J hi k), sizeV, if_neg (by rw [hlk]; omega), if_pos (hs k)]
  have p0 := press_dense (v := v) (seed := 0) (n := []) hpos.1 (by omega)
  have p1 := press_top (v := v) (k := 0) (seed := 0) (n := []) hpos.1 (by omega) (by omega)
  have p2 := press_top (v := v) (k := q) (seed := 0) (n := []) hpos.1 (by omega) (by omega)
  have p3 := press_top (v := v) (k := q + 1) (seed := 0) (n := []) hpos.1 (by omega) (by omega)
  have f0 := press_fits (h := (⟨0, 0, 0⟩ : T_api_How)) (seed := 0) (n := []) hi
  have f1 := press_fits (h := (⟨1, ((0 : Nat) : Int), 0⟩ : T_api_How)) (seed := 0) (n := []) hi
  have f2 := press_fits (h := (⟨1, (q : Int), 0⟩ : T_api_How)) (seed := 0) (n := []) hi
  have f3 := press_fits (h := (⟨1, ((q + 1 : Nat) : Int), 0⟩ : T_api_How)) (seed := 0) (n := []) hi
  rw [p0] at f0
  rw [p1] at f1
  rw [p2] at f2
  rw [p3] at f3
  have L0 := Left_eq hi f0
  have L1 := Left_eq hi f1
  have L2 := Left_eq hi f2
  have L3 := Left_eq hi f3
  simp only at L0 L1 L2 L3
  rw [left_dense hi hpos.1 (by omega)] at L0
  rw [left_top hi hpos.1 (by omega)] at L1 L2 L3
  have E0 := Press_eq (h := (⟨0, 0, 0⟩ : T_api_How)) (seed := 0) (n := []) hi (by simp)
  have E1 := Press_eq (h := (⟨1, ((0 : Nat) : Int), 0⟩ : T_api_How)) (seed := 0) (n := []) hi (by simp)
  have E2 := Press_eq (h := (⟨1, (q : Int), 0⟩ : T_api_How)) (seed := 0) (n := []) hi (by simp)
  have E3 := Press_eq (h := (⟨1, ((q + 1 : Nat) : Int), 0⟩ : T_api_How)) (seed := 0) (n := []) hi (by simp)
  rw [p0] at E0
  rw [p1] at E1
  rw [p2] at E2
  rw [p3] at E3
  simp only [sentT] at E0 E1 E2 E3
  rw [show ((0 : Nat) : Int) = 0 from rfl] at E1
  have hle := keepV_le q v
  rw [if_pos (by omega), bindS, if_pos (by omega), hq2, i64_s (by omega), E0, bindS, E1, bindS, E2, bindS, E3, bindS]
  simp only [orB]
  rw [L0, bindS, L1, bindS, L2, bindS, L3, bindS]
  simp only [bindS, orB, andB]
  rw [s0, sk, sk, keepV_0]
  simp [bindS, vSame_eq v v (by omega), hle]
end Go.Proofs.YtdgdgfckcnjpfaaGreat.Abs
