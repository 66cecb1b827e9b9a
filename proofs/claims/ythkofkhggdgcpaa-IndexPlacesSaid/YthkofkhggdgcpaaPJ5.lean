/- Plain facts on the document's merged lists, and on where a number stands. Conditions: none. -/
import Derived.Test.YthkofkhggdgcpaaPJ4
namespace Go.Proofs.Ythkofkhggdgcpaa.Abs
open Go Go.RowKit Go.IntWalk
set_option linter.unusedVariables false
set_option linter.unusedSimpArgs false
set_option maxRecDepth 100000

def insP (out : List Int) (n : Int) : List Int := if n ∈ out then out else out.filter (fun m => decide (m < n)) ++ n :: out.filter (fun m => decide (n < m))
theorem insP_facts {out : List Int} (n : Int) (hr : rising out = true) : rising (insP out n) = true ∧ (∀ m, m ∈ insP out n ↔ m ∈ out ∨ m = n) ∧ (insP out n).length ≤ out.length + 1 := by
  unfold insP
  by_cases h : n ∈ out
  · rw [if_pos h]
    exact ⟨hr, fun m => ⟨.inl, fun h' => h'.elim id (fun e => e ▸ h)⟩, by omega⟩
  · rw [if_neg h]
    refine ⟨?_, fun m => ?_, ?_⟩
    · have hp := rising_iff.1 hr
      rw [rising_iff, List.pairwise_append]
      refine ⟨hp.filter _, ?_, ?_⟩
      · rw [List.pairwise_cons]
        exact ⟨fun m hm => by have := (List.mem_filter.1 hm).2; simpa using this, hp.filter _⟩
      · intro a ha b hb
        have h1 : a < n := by have := (List.mem_filter.1 ha).2; simpa using this
        rcases List.mem_cons.1 hb with rfl | hb
        · exact h1
        · have h2 : n < b := by have := (List.mem_filter.1 hb).2; simpa using this
          omega
    · simp only [List.mem_append, List.mem_filter, List.mem_cons, decide_eq_true_eq]
      constructor
      · rintro (h1 | rfl | h1)
        · exact .inl h1.1
        · exact .inr rfl
        · exact .inl h1.1
      · rintro (h1 | rfl)
        · by_cases e : m < n
          · exact .inl ⟨h1, e⟩
          · by_cases e2 : m = n
            · exact .inr (.inl e2)
            · exact .inr (.inr ⟨h1, by omega⟩)
        · exact .inr (.inl rfl)
    · simp only [List.length_append, List.length_cons]
      have : ∀ (t : List Int), n ∉ t → (t.filter fun m => decide (m < n)).length + (t.filter fun m => decide (n < m)).length = t.length := by
        intro t
        induction t with
        | nil => simp
        | cons x t ih =>
          intro hn
          have h1 := ih (fun h => hn (List.mem_cons_of_mem _ h))
          have h2 : n ≠ x := fun e => hn (by simp [e])
          simp only [List.filter_cons, List.length_cons]
          by_cases hx : x < n
          · have hx' : ¬ n < x := by omega
            simp only [hx, hx', decide_true, decide_false, if_true, Bool.false_eq_true, if_false, List.length_cons]; omega
          · have hx' : n < x := by omega
            simp only [hx, hx', decide_true, decide_false, if_true, Bool.false_eq_true, if_false, List.length_cons]; omega
      have := this out h
      omega

section
variable (L : List (List Int)) (x0 x1 : Int) (n : Int) (hn : at' (at' L x0) x1 = n) (out : List Int) (ho : out.length ≤ 1000000)
include hn ho
theorem RM_l2 : ∀ (t : List Int) (k : Nat) (acc : List Int), out.drop k = t → acc.length ≤ 2000000 + k → M_thrumref06_Merge_l2 L x0 x1 out (k : Int) acc = some (acc ++ t.filter fun m => decide (m < n))
  | [], k, acc, h, ha => by rw [M_thrumref06_Merge_l2, if_neg (drop_end h)]; simp
  | x :: t, k, acc, h, ha => by
    obtain ⟨h1, h2, h3⟩ := drop_at h
    rw [M_thrumref06_Merge_l2, if_pos h1, if_pos ⟨by omega, h1⟩, h2, hn]
    by_cases hx : x < n
    · rw [if_pos hx, if_pos (room8 (by simp; omega)), i64_s (by omega), RM_l2 t (k + 1) _ h3 (by simp; omega), List.filter_cons, if_pos (by simp [hx])]
      simp
    · rw [if_neg hx, i64_s (by omega), RM_l2 t (k + 1) _ h3 (by omega), List.filter_cons, if_neg (by simp [hx])]
theorem RM_l3 : ∀ (t : List Int) (k : Nat) (acc : List Int), out.drop k = t → acc.length ≤ 2000000 + k → M_thrumref06_Merge_l3 L x0 x1 out (k : Int) acc = some (acc ++ t.filter fun m => decide (n < m))
  | [], k, acc, h, ha => by rw [M_thrumref06_Merge_l3, if_neg (drop_end h)]; simp
  | x :: t, k, acc, h, ha => by
    obtain ⟨h1, h2, h3⟩ := drop_at h
    rw [M_thrumref06_Merge_l3, if_pos h1, if_pos ⟨by omega, h1⟩, h2, hn]
    by_cases hx : n < x
    · rw [if_pos hx, if_pos (room8 (by simp; omega)), i64_s (by omega), RM_l3 t (k + 1) _ h3 (by simp; omega), List.filter_cons, if_pos (by simp [hx])]
      simp
    · rw [if_neg hx, i64_s (by omega), RM_l3 t (k + 1) _ h3 (by omega), List.filter_cons, if_neg (by simp [hx])]
end

theorem RM_l1 (L : List (List Int)) (x0 : Int) (hL : (at' L x0).length ≤ 1000) : ∀ (t : List Int) (k : Nat) (out : List Int), (at' L x0).drop k = t → rising out = true → out.length + t.length ≤ 1000000 →
    ∃ R, M_thrumref06_Merge_l1 L x0 (k : Int) out = some R ∧ rising R = true ∧ R.length ≤ out.length + t.length ∧ ∀ m, m ∈ R ↔ m ∈ out ∨ m ∈ t
  | [], k, out, h, hr, ho => by
    refine ⟨out, ?_, hr, by simp, by simp⟩
    rw [M_thrumref06_Merge_l1, if_neg (drop_end h)]
  | x :: t, k, out, h, hr, ho => by
    obtain ⟨h1, h2, h3⟩ := drop_at h
    obtain ⟨g1, g2, g3⟩ := insP_facts x hr
    simp only [List.length_cons] at ho
    obtain ⟨R, e1, e2, e3, e4⟩ := RM_l1 L x0 hL t (k + 1) (insP out x) h3 g1 (by omega)
    refine ⟨R, ?_, e2, by simp; omega, fun m => ?_⟩
    · rw [M_thrumref06_Merge_l1, if_pos h1, if_pos ⟨by omega, h1⟩, h2, in_eq out x (by omega), bindS]
      by_cases hx : x ∈ out
      · have : insP out x = out := by unfold insP; rw [if_pos hx]
        rw [this] at e1
        rw [if_pos (by simp [hx]), i64_s (by omega), e1]
      · have hi : insP out x = out.filter (fun m => decide (m < x)) ++ x :: out.filter (fun m => decide (x < m)) := by unfold insP; rw [if_neg hx]
        have f1 := List.length_filter_le (fun m => decide (m < x)) out
        have k2 := RM_l2 L x0 k x h2 out (by omega) out 0 [] rfl (by simp)
        have k3 := RM_l3 L x0 k x h2 out (by omega) out 0 (out.filter (fun m => decide (m < x)) ++ [x]) rfl (by simp; omega)
        rw [show ((0 : Nat) : Int) = 0 from rfl] at k2 k3
        rw [if_neg (by simp [hx]), k2, bindS, List.nil_append, if_pos (room8 (by simp; omega)), bindS, k3, bindS, i64_s (by omega)]
        rw [← e1, hi]
        simp
    · rw [e4, g2]
      simp only [List.mem_cons]
      constructor
      · rintro ((h | h) | h)
        · exact .inl h
        · exact .inr (.inl h)
        · exact .inr (.inr h)
      · rintro (h | h | h)
        · exact .inl (.inl h)
        · exact .inl (.inr h)
        · exact .inr h
theorem RM_l0 (L : List (List Int)) (hL : ∀ l ∈ L, l.length ≤ 1000) (hN : L.length ≤ 4611686018427387904) : ∀ (t : List (List Int)) (k : Nat) (out : List Int), L.drop k = t → rising out = true → out.length + t.flatten.length ≤ 1000000 →
    ∃ R, M_thrumref06_Merge_l0 L (k : Int) out = some R ∧ rising R = true ∧ R.length ≤ out.length + t.flatten.length ∧ ∀ m, m ∈ R ↔ m ∈ out ∨ m ∈ t.flatten
  | [], k, out, h, hr, ho => by
    refine ⟨out, ?_, hr, by simp, by simp⟩
    rw [M_thrumref06_Merge_l0, if_neg (drop_end h)]
  | x :: t, k, out, h, hr, ho => by
    obtain ⟨h1, h2, h3⟩ := drop_at h
    have hx : x ∈ L := by
      have : x ∈ L.drop k := by rw [h]; simp
      exact List.mem_of_mem_drop this
    simp only [List.flatten_cons, List.length_append] at ho
    obtain ⟨R1, a1, a2, a3, a4⟩ := RM_l1 L (k : Int) (by rw [h2]; exact hL x hx) x 0 out (by rw [h2]; rfl) hr (by omega)
    obtain ⟨R, e1, e2, e3, e4⟩ := RM_l0 L hL hN t (k + 1) R1 h3 a2 (by omega)
    refine ⟨R, ?_, e2, by simp only [List.flatten_cons, List.length_append]; omega, fun m => ?_⟩
    · rw [show ((0 : Nat) : Int) = 0 from rfl] at a1
      rw [M_thrumref06_Merge_l0, if_pos h1, if_pos ⟨by omega, h1⟩, a1, bindS, i64_s (by omega), e1]
    · rw [e4, a4]
      simp only [List.flatten_cons, List.mem_append]
      constructor
      · rintro ((h | h) | h)
        · exact .inl h
        · exact .inr (.inl h)
        · exact .inr (.inr h)
      · rintro (h | h | h)
        · exact .inl (.inl h)
        · exact .inl (.inr h)
        · exact .inr h
theorem refMerge_eq (L : List (List Int)) (hL : ∀ l ∈ L, l.length ≤ 1000) (hN : L.length ≤ 4611686018427387904) (hF : L.flatten.length ≤ 1000000) : M_thrumref06_Merge L = some (mergeP L.flatten) := by
  obtain ⟨R, e1, e2, e3, e4⟩ := RM_l0 L hL hN L 0 [] rfl rfl (by simpa using hF)
  rw [show ((0 : Nat) : Int) = 0 from rfl] at e1
  obtain ⟨g1, g2⟩ := mergeP_facts L.flatten
  rw [M_thrumref06_Merge, e1, bindS, rising_ext e2 g1 fun n => by rw [e4, g2]; simp]

/-- Where a number stands. -/
def cntLt (l : List Int) (n : Int) : Nat := (l.takeWhile fun m => decide (m < n)).length
theorem cnt_spec : ∀ {l : List Int} {n : Int} {k : Nat}, k ≤ l.length → (∀ i, i < k → l.getD i 0 < n) → (∀ h : k < l.length, ¬ l.getD k 0 < n) → cntLt l n = k
  | [], n, k, hk, h1, h2 => by simp at hk; subst hk; rfl
  | x :: t, n, 0, hk, h1, h2 => by
    have := h2 (by simp)
    simp only [List.getD_cons_zero] at this
    simp [cntLt, List.takeWhile_cons, this]
  | x :: t, n, k + 1, hk, h1, h2 => by
    have hx := h1 0 (by omega)
    simp only [List.getD_cons_zero] at hx
    have := cnt_spec (l := t) (n := n) (k := k) (by simpa using hk) (fun i hi => by have := h1 (i + 1) (by omega); simpa using this) (fun h => by have := h2 (by simpa using h); simpa using this)
    simp only [cntLt] at this ⊢
    simp [List.takeWhile_cons, hx, this]

theorem refHas_l0 (l : List Int) (n : Int) (hl : l.length ≤ 4611686018427387904) : ∀ (t : List Int) (k : Nat), l.drop k = t → M_thrumref06_Has_l0 l n (k : Int) = some (if h : cntLt t n < t.length then .inl (((k + cntLt t n : Nat) : Int), at' t (cntLt t n : Int) == n) else .inr ())
  | [], k, h => by rw [M_thrumref06_Has_l0, if_neg (drop_end h)]; simp
  | x :: t, k, h => by
    obtain ⟨h1, h2, h3⟩ := drop_at h
    rw [M_thrumref06_Has_l0, if_pos h1, if_pos ⟨by omega, h1⟩, h2]
    by_cases hx : x < n
    · have hc : cntLt (x :: t) n = cntLt t n + 1 := by simp [cntLt, List.takeWhile_cons, hx]
      rw [if_neg (by omega), i64_s (by omega), refHas_l0 l n hl t (k + 1) h3]
      by_cases ht : cntLt t n < t.length
      · rw [dif_pos ht, dif_pos (by rw [hc]; simpa using ht), hc, at'_nat, at'_nat]
        simp only [List.getD_cons_succ]
        rw [show k + 1 + cntLt t n = k + (cntLt t n + 1) by omega]
      · rw [dif_neg ht, dif_neg (by rw [hc]; simpa using ht)]
    · have hc : cntLt (x :: t) n = 0 := by simp [cntLt, List.takeWhile_cons, hx]
      rw [if_pos (by omega), dif_pos (by rw [hc]; simp), hc]
      rfl
def hasP (l : List Int) (n : Int) : Int × Bool := ((cntLt l n : Int), decide (cntLt l n < l.length) && (at' l (cntLt l n : Int) == n))
theorem refHas_eq (l : List Int) (n : Int) (hl : l.length ≤ 4611686018427387904) : M_thrumref06_Has l n = some (hasP l n) := by
  have h0 := refHas_l0 l n hl l 0 rfl
  rw [show ((0 : Nat) : Int) = 0 from rfl] at h0
  have hle : cntLt l n ≤ l.length := (List.takeWhile_prefix _).length_le
  rw [M_thrumref06_Has, h0, bindS, hasP]
  by_cases h : cntLt l n < l.length
  · rw [dif_pos h]; simp [h]
  · rw [dif_neg h]
    have : cntLt l n = l.length := by omega
    simp [this]

theorem shr1 (n : Int) : sShr .u64 n 1 = n / 2 := by
  simp only [sShr]
  have : min (1 : Int).toNat IntKind.u64.bits = 1 := by decide
  rw [this, Int.fdiv_eq_ediv_of_nonneg _ (by decide)]; rfl
theorem Less_eq (a b : Int) : M_cmp_Less_int a b = some (decide (a < b)) := by
  rw [M_cmp_Less_int, M_cmp_isNaN_int, bindS, if_neg (by simp), bindS, if_neg (by simp), bindS]
theorem BS_l0 (l : List Int) (n : Int) (hl : l.length ≤ 1099511627776) (hr : l.Pairwise (· < ·)) : ∀ (g i j : Nat), j - i ≤ g → i ≤ j → j ≤ l.length → (∀ q, q < i → l.getD q 0 < n) → (∀ q, j ≤ q → q < l.length → ¬ l.getD q 0 < n) →
    M_slices_BinarySearch_int_int_l0 l n (j : Int) (i : Int) = some (cntLt l n : Int)
  | 0, i, j, hg, hij, hj, h1, h2 => by
    have e : i = j := by omega
    subst e
    rw [M_slices_BinarySearch_int_int_l0, if_neg (by omega), cnt_spec hj h1 (fun h => h2 i (Nat.le_refl _) h)]
  | g + 1, i, j, hg, hij, hj, h1, h2 => by
    rw [M_slices_BinarySearch_int_int_l0]
    by_cases hlt : i < j
    rotate_left
    · have e : i = j := by omega
      subst e
      rw [if_neg (by omega), cnt_spec hj h1 (fun h => h2 i (Nat.le_refl _) h)]
    have w1 : IntKind.i64.wrap ((i : Int) + (j : Int)) = (i : Int) + (j : Int) := i64_in _ (by omega)
    have w2 : IntKind.u64.wrap ((i : Int) + (j : Int)) = (i : Int) + (j : Int) := u64_in _ (by omega)
    rw [if_pos (by omega), w1, w2, shr1]
    have hh : ((i : Int) + (j : Int)) / 2 = (((i + j) / 2 : Nat) : Int) := by omega
    rw [hh, i64_in _ (by omega), bindS]
    generalize hm : (i + j) / 2 = m
    have hmi : i ≤ m ∧ m < j := by omega
    rw [if_pos (by omega), at'_nat, Less_eq, bindS]
    have hpw := List.pairwise_iff_getElem.1 hr
    have gd : ∀ q (h : q < l.length), l.getD q 0 = l[q] := fun q h => by simp [List.getD_eq_getElem?_getD, List.getElem?_eq_getElem h]
    have hdef : (default : Int) = 0 := rfl
    rw [hdef]
    by_cases hx : l.getD m 0 < n
    · rw [if_pos (by simpa using hx), i64_s (by omega)]
      refine BS_l0 l n hl hr g (m + 1) j (by omega) (by omega) hj (fun q hq => ?_) h2
      by_cases e : q = m
      · subst e; exact hx
      · have := hpw q m (by omega) (by omega) (by omega)
        rw [gd q (by omega)]; rw [gd m (by omega)] at hx; omega
    · rw [if_neg (by simpa using hx)]
      refine BS_l0 l n hl hr g i m (by omega) (by omega) (by omega) h1 (fun q hq hq2 => ?_)
      by_cases e : q = m
      · subst e; exact hx
      · have := hpw m q (by omega) (by omega) (by omega)
        rw [gd q hq2]; rw [gd m (by omega)] at hx; omega
theorem Has_eq (l : List Int) (n : Int) (hl : l.length ≤ 1099511627776) (hr : rising l = true) : M_index_Has l n = some (hasP l n) := by
  have h0 := BS_l0 l n hl (rising_iff.1 hr) l.length 0 l.length (by omega) (by omega) (Nat.le_refl _) (by omega) (by omega)
  rw [show ((0 : Nat) : Int) = 0 from rfl] at h0
  rw [M_index_Has, M_slices_BinarySearch_int_int, h0, bindS]
  have hle : cntLt l n ≤ l.length := (List.takeWhile_prefix _).length_le
  by_cases h : cntLt l n < l.length
  · rw [if_pos (by omega), if_pos (by omega), hasP]
    by_cases e : at' l (cntLt l n : Int) = n
    · rw [if_pos e, bindS]; simp [h, e]
    · rw [if_neg e, if_pos (by omega), M_slices_isNaN_int, bindS, if_neg (by simp), bindS]; simp [h, e]
  · rw [if_neg (by omega), bindS, hasP]; simp [h]
end Go.Proofs.Ythkofkhggdgcpaa.Abs
