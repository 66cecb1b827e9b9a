/- Plain facts: what is picked are those of a rank. Conditions: none. -/
import Derived.Test.YtdgdgfckcnjpfaaGreatPH2
import Derived.Test.YtdgdgfckcnjpfaaGreatPL5
namespace Go.Proofs.YtdgdgfckcnjpfaaGreat.Abs
open Go Go.RowKit Go.IntWalk
set_option linter.unusedVariables false
set_option linter.unusedSimpArgs false
set_option linter.unusedSectionVars false
set_option maxRecDepth 100000

def sizeP (n : Int) : Int := if n < 0 then IntKind.u64.wrap (0 - IntKind.u64.wrap n) else IntKind.u64.wrap n
theorem sizeP_abs {n : Int} (h : -9223372036854775808 ≤ n ∧ n ≤ 9223372036854775807) : sizeP n = (n.natAbs : Int) := by
  unfold sizeP
  split
  · rw [IntKind.wrap_u64, IntKind.wrap_u64]; omega
  · rw [IntKind.wrap_u64]; omega
theorem size_eq (n : Int) : M_topk_size n = some (sizeP n) := by
  rw [M_topk_size, sizeP]
  split <;> rfl
def oneF : Nat → List Int → List T_topk_one
  | _, [] => []
  | k, x :: t => ⟨(k : Int), sizeP x⟩ :: oneF (k + 1) t
theorem oneF_len : ∀ (k : Nat) (t : List Int), (oneF k t).length = t.length
  | _, [] => rfl
  | k, x :: t => by simp [oneF, oneF_len (k + 1) t]
theorem ones_l0 (v : List Int) (hv : v.length ≤ 50000) : ∀ (t : List Int) (k : Nat) (pre : List T_topk_one), v.drop k = t → pre.length = k → M_topk_ones_l0 v (k : Int) (pre ++ List.replicate t.length ⟨0, 0⟩) = some (pre ++ oneF k t)
  | [], k, pre, h, hp => by rw [M_topk_ones_l0, if_neg (drop_end h)]; simp [oneF]
  | x :: t, k, pre, h, hp => by
    obtain ⟨h1, h2, h3⟩ := drop_at h
    have hs : (pre ++ List.replicate (x :: t).length (⟨0, 0⟩ : T_topk_one)).set (Int.toNat (k : Int)) ⟨(k : Int), sizeP x⟩ = (pre ++ [⟨(k : Int), sizeP x⟩]) ++ List.replicate t.length ⟨0, 0⟩ := by
      rw [Int.toNat_natCast, List.set_append_right _ _ (by omega), List.length_cons, List.replicate_succ, show k - pre.length = 0 by omega]
      simp
    rw [M_topk_ones_l0, if_pos h1, if_pos ⟨by omega, h1⟩, h2, size_eq, bindS, if_pos ⟨by omega, by simp; omega⟩, bindS, i64_s (by omega), hs, ones_l0 v hv t (k + 1) _ h3 (by simp; omega)]
    simp [oneF]
def onesP (v : List Int) : List T_topk_one := oneF 0 v
theorem ones_eq (v : List Int) (hv : v.length ≤ 50000) : M_topk_ones v = some (onesP v) := by
  have h := ones_l0 v hv v 0 [] rfl rfl
  rw [show ((0 : Nat) : Int) = 0 from rfl] at h
  rw [M_topk_ones, if_pos (by omega), bindS, Int.toNat_natCast]
  simp only [List.nil_append] at h
  rw [h]; rfl
theorem places_l0 (l : List T_topk_one) (hl : l.length ≤ 1000000) : ∀ (t : List T_topk_one) (k : Nat) (acc : List Int), l.drop k = t → acc.length ≤ k → M_topk_places_l0 l (k : Int) acc = some (acc ++ t.map T_topk_one.F_place)
  | [], k, acc, h, ha => by rw [M_topk_places_l0, if_neg (drop_end h)]; simp
  | x :: t, k, acc, h, ha => by
    obtain ⟨h1, h2, h3⟩ := drop_at h
    rw [M_topk_places_l0, if_pos h1, if_pos ⟨by omega, h1⟩, h2, if_pos (room8 (by simp; omega)), bindS, i64_s (by omega), places_l0 l hl t (k + 1) _ h3 (by simp; omega)]
    simp
theorem places_eq (l : List T_topk_one) (hl : l.length ≤ 1000000) : M_topk_places l = some (l.map T_topk_one.F_place) := by
  have h := places_l0 l hl l 0 [] rfl (by simp)
  rw [show ((0 : Nat) : Int) = 0 from rfl] at h
  rw [M_topk_places, if_pos (by omega), bindS]
  simp only [Int.toNat_zero, List.replicate_zero]
  rw [h]; simp

theorem oneF_mem : ∀ (t : List Int) (k : Nat) (x : T_topk_one), x ∈ oneF k t ↔ ∃ i, i < t.length ∧ x = ⟨((k + i : Nat) : Int), sizeP (t.getD i 0)⟩
  | [], k, x => by simp [oneF]
  | y :: t, k, x => by
    rw [oneF, List.mem_cons, oneF_mem t (k + 1) x]
    constructor
    · rintro (rfl | ⟨i, hi, rfl⟩)
      · exact ⟨0, by simp, by simp⟩
      · exact ⟨i + 1, by simpa using hi, by simp only [List.getD_cons_succ]; rw [show k + 1 + i = k + (i + 1) by omega]⟩
    · rintro ⟨i, hi, rfl⟩
      cases i with
      | zero => exact .inl (by simp)
      | succ i => exact .inr ⟨i, by simpa using hi, by simp only [List.getD_cons_succ]; rw [show k + 1 + i = k + (i + 1) by omega]⟩
theorem oneF_pw : ∀ (t : List Int) (k : Nat), (oneF k t).Pairwise (fun a b => a.F_place < b.F_place)
  | [], k => List.Pairwise.nil
  | y :: t, k => by
    rw [oneF, List.pairwise_cons]
    refine ⟨fun b hb => ?_, oneF_pw t (k + 1)⟩
    obtain ⟨i, hi, rfl⟩ := (oneF_mem t (k + 1) b).1 hb
    simp only; omega
theorem ones_nodup (v : List Int) : (onesP v).Nodup := (oneF_pw v 0).imp fun h e => by rw [e] at h; omega

/-- How many are ahead. -/
def rank (v : List Int) (x : T_topk_one) : Nat := (onesP v).countP fun y => decide (bh x y)
def pickP (k : Nat) (v : List Int) : List Int := ((onesP v).filter fun x => decide (rank v x < k)).map T_topk_one.F_place
theorem pickP_rising (k : Nat) (v : List Int) : rising (pickP k v) = true := by
  rw [rising_iff, pickP, List.pairwise_map]
  exact (oneF_pw v 0).filter _

theorem kept_iff {v : List Int} {S R : List T_topk_one} {k : Nat} (hk : k ≤ v.length) (h : Kept (onesP v) S R k) (x : T_topk_one) (hx : x ∈ onesP v) : x ∈ S ↔ rank v x < k := by
  have hS : S.length = k := by rw [h.len, onesP, oneF_len]; omega
  have hnd : (S ++ R).Nodup := h.perm.nodup_iff.1 (ones_nodup v)
  have hr : rank v x = S.countP (fun y => decide (bh x y)) + R.countP (fun y => decide (bh x y)) := by
    rw [rank, h.perm.countP_eq, List.countP_append]
  constructor
  · intro hxS
    have h0 : R.countP (fun y => decide (bh x y)) = 0 := List.countP_eq_zero.2 fun y hy => by simpa using h.best x hxS y hy
    have h1 : S.countP (fun y => decide (bh x y)) ≠ S.length := fun e => by
      have := List.countP_eq_length.1 e x hxS
      exact bh_irr x (by simpa using this)
    have h2 := List.countP_le_length (p := fun y => decide (bh x y)) (l := S)
    omega
  · intro hlt
    rcases List.mem_append.1 (h.perm.mem_iff.1 hx) with hxS | hxR
    · exact hxS
    · exfalso
      have h1 : S.countP (fun y => decide (bh x y)) = S.length := List.countP_eq_length.2 fun y hy => by
        simp only [decide_eq_true_eq]
        by_cases hb : bh x y
        · exact hb
        · have e := bh_tot hb (h.best y hy x hxR)
          subst e
          exact absurd rfl ((List.pairwise_append.1 hnd).2.2 x hy x hxR)
      omega

theorem sorted_places {v : List Int} {S R : List T_topk_one} {k : Nat} (hk : k ≤ v.length) (h : Kept (onesP v) S R k) : ((S.map T_topk_one.F_place).mergeSort fun x y => decide (x ≤ y)) = pickP k v := by
  have hp : ((S.map T_topk_one.F_place).mergeSort fun x y => decide (x ≤ y)).Pairwise (fun x y => decide (x ≤ y) = true) :=
    List.pairwise_mergeSort (fun a b c h1 h2 => by simp at *; omega) (fun a b => by simp; omega) _
  have hnd : ((onesP v).map T_topk_one.F_place).Nodup := by
    rw [List.Nodup, List.pairwise_map]
    exact (oneF_pw v 0).imp fun h e => by omega
  have hS : (S.map T_topk_one.F_place).Nodup := by
    have := (h.perm.map T_topk_one.F_place).nodup_iff.1 hnd
    rw [List.map_append] at this
    exact (List.nodup_append.1 this).1
  have hnd2 : ((S.map T_topk_one.F_place).mergeSort fun x y => decide (x ≤ y)).Nodup := (List.mergeSort_perm _ _).nodup_iff.2 hS
  refine rising_ext (rising_iff.2 ?_) (pickP_rising k v) fun n => ?_
  · refine (hp.and hnd2).imp fun {a b} hab => ?_
    have h1 : a ≤ b := by simpa using hab.1
    have h2 : a ≠ b := hab.2
    omega
  · rw [List.mem_mergeSort, pickP]
    simp only [List.mem_map, List.mem_filter, decide_eq_true_eq]
    constructor
    · rintro ⟨x, hx, rfl⟩
      have hx' : x ∈ onesP v := h.perm.mem_iff.2 (List.mem_append_left _ hx)
      exact ⟨x, ⟨hx', (kept_iff hk h x hx').1 hx⟩, rfl⟩
    · rintro ⟨x, ⟨hx, hr⟩, rfl⟩
      exact ⟨x, (kept_iff hk h x hx).2 hr, rfl⟩

theorem Pick_ok (k : Nat) (v : List Int) (hk : k ≤ v.length) (hv : v.length ≤ 4096) : M_topk_Pick (k : Int) v = some (pickP k v, 0) ∧ (pickP k v).length = k := by
  have hl : (onesP v).length = v.length := oneF_len 0 v
  have k0 : Kept ((onesP v).take 0) [] [] k := ⟨by simp, by simp, by simp⟩
  obtain ⟨S, R, g1, g2⟩ := Pick_l0 k (by omega) (onesP v) (by omega) (onesP v) 0 [] [] rfl k0 (fun c c0 c1 => by simp at c1)
  rw [show ((0 : Nat) : Int) = 0 from rfl] at g1
  have hS : S.length = k := by rw [g2.len, hl]; omega
  have hs := sorted_places hk g2
  refine ⟨?_, by rw [← hs]; simp [hS]⟩
  rw [M_topk_Pick, if_neg (by omega), orB, if_neg (by simp; omega), ones_eq v (by omega), bindS, g1, bindS, places_eq S (by omega), bindS, M_slices_Sort_int, if_pos (by simp; omega), bindS, hs]
theorem Pick_long (k : Int) (v : List Int) (hv : 4096 < v.length) : M_topk_Pick k v = some ([], 3) := by
  rw [M_topk_Pick, if_pos (by omega)]
theorem Pick_bad (k : Int) (v : List Int) (hv : v.length ≤ 4096) (hk : k < 0 ∨ (v.length : Int) < k) : M_topk_Pick k v = some ([], 1) := by
  rw [M_topk_Pick, if_neg (by omega), orB, if_pos (by simp; omega)]
theorem pick_mem (k : Nat) (v : List Int) (n : Int) : n ∈ pickP k v ↔ ∃ i : Nat, i < v.length ∧ n = i ∧ rank v ⟨(i : Int), sizeP (v.getD i 0)⟩ < k := by
  rw [pickP]
  simp only [List.mem_map, List.mem_filter, decide_eq_true_eq]
  constructor
  · rintro ⟨x, ⟨hx, hr⟩, rfl⟩
    obtain ⟨i, hi, rfl⟩ := (oneF_mem v 0 x).1 hx
    rw [Nat.zero_add] at hr ⊢
    exact ⟨i, hi, rfl, hr⟩
  · rintro ⟨i, hi, rfl, hr⟩
    exact ⟨_, ⟨(oneF_mem v 0 _).2 ⟨i, hi, by rw [Nat.zero_add]⟩, hr⟩, rfl⟩
end Go.Proofs.YtdgdgfckcnjpfaaGreat.Abs
