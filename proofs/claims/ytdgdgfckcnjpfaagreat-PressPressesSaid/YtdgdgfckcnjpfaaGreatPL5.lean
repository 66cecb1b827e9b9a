/- Plain facts: lists that rise, what is gathered, what is spread. Conditions: none. -/
import Derived.Test.YtdgdgfckcnjpfaaGreatPB
import Derived.Test.YtdgdgfckcnjpfaaGreatPM
namespace Go.Proofs.YtdgdgfckcnjpfaaGreat.Abs
open Go Go.RowKit Go.IntWalk
set_option linter.unusedVariables false
set_option linter.unusedSimpArgs false
set_option linter.unusedSectionVars false
set_option linter.unnecessarySimpa false
set_option maxRecDepth 100000

/-- Does a list rise? -/
def rising : List Int → Bool
  | [] => true
  | x :: t => (match t with
    | [] => true
    | y :: _ => decide (x < y)) && rising t

theorem rises_l0 (l : List Int) (hl : l.length ≤ 4611686018427387904) : ∀ (t : List Int) (x : Int) (k : Nat), l.drop k = x :: t → M_index_rises_l0 l ((k + 1 : Nat) : Int) = some (if rising (x :: t) then .inr () else .inl false)
  | [], x, k, h => by
    have h1 := drop_at h
    rw [M_index_rises_l0, if_neg (drop_end h1.2.2)]
    simp [rising]
  | y :: t, x, k, h => by
    have h1 := drop_at h
    have h2 := drop_at h1.2.2
    have e1 : IntKind.i64.wrap (((k + 1 : Nat) : Int) - 1) = (k : Int) := by rw [i64_in _ (by omega)]; omega
    rw [M_index_rises_l0, if_pos h2.1, e1, if_pos (by omega), if_pos (by omega), h1.2.1, h2.2.1, i64_s (by omega), rises_l0 l hl t y (k + 1) h1.2.2]
    by_cases hxy : x < y
    · rw [if_neg (by omega)]; simp [rising, hxy]
    · rw [if_pos (by omega)]; simp [rising, hxy]

theorem rises_eq (l : List Int) (hl : l.length ≤ 4611686018427387904) : M_index_rises l = some (rising l) := by
  cases l with
  | nil => rw [M_index_rises, M_index_rises_l0]; simp [rising]
  | cons x t =>
    have := rises_l0 (x :: t) hl t x 0 rfl
    rw [M_index_rises, show (1 : Int) = ((0 + 1 : Nat) : Int) from rfl, this]
    cases rising (x :: t) <;> rfl

/-- May a dimension be? -/
def meas (dim : Int) : Bool := decide (0 < dim) && decide (dim ≤ 4096)
/-- Places that may be: they rise, and lie within. -/
def placed (dim : Int) (l : List Int) : Bool := meas dim && rising l && l.all fun n => decide (0 ≤ n) && decide (n < dim)
def checkP (dim : Int) (l : List Int) : Int := if placed dim l then 0 else 1

theorem rising_all {lo hi : Int} : ∀ {l : List Int}, rising l = true → (∀ x, l.head? = some x → lo ≤ x) → (∀ x, l.getLast? = some x → x < hi) → ∀ n ∈ l, lo ≤ n ∧ n < hi
  | [], _, _, _, n, h => by simp at h
  | [x], _, h1, h2, n, h => by
    simp only [List.mem_singleton] at h; subst h
    exact ⟨h1 _ rfl, h2 _ rfl⟩
  | x :: y :: t, hr, h1, h2, n, h => by
    simp only [rising, Bool.and_eq_true, decide_eq_true_eq] at hr
    have hx := h1 x rfl
    have ih := rising_all (lo := lo) (hi := hi) (l := y :: t) (by simpa only [rising, Bool.and_eq_true] using hr.2) (fun z hz => by
      simp only [List.head?_cons, Option.some.injEq] at hz; subst hz; omega) (fun z hz => h2 z (by rw [List.getLast?_cons_cons]; exact hz))
    rcases List.mem_cons.1 h with rfl | h
    · exact ⟨hx, by have := (ih y (by simp)).2; omega⟩
    · exact ih n h

theorem all_in {dim : Int} {l : List Int} : (l.all fun n => decide (0 ≤ n) && decide (n < dim)) = true ↔ ∀ n ∈ l, 0 ≤ n ∧ n < dim := by
  simp [List.all_eq_true]

theorem measure_eq (dim : Int) : M_index_measure dim = some (meas dim) := by
  rw [M_index_measure, andB]
  simp [meas]

theorem Check_eq (dim : Int) (l : List Int) (hl : l.length ≤ 4611686018427387904) : M_index_Check dim l = some (checkP dim l) := by
  rw [M_index_Check, measure_eq, bindS, rises_eq l hl, bindS, orB]
  cases hm : meas dim with
  | false => simp [checkP, placed, hm]
  | true =>
    cases hr : rising l with
    | false => simp [checkP, placed, hr]
    | true =>
      rw [if_neg (by simp)]
      cases l with
      | nil => simp [checkP, placed, hm, hr]
      | cons x t =>
        have e1 : IntKind.i64.wrap ((((x :: t).length : Nat) : Int) - 1) = ((t.length : Nat) : Int) := by rw [i64_in _ (by simp at hl ⊢; omega)]; simp
        have e2 : at' (x :: t) ((t.length : Nat) : Int) = (x :: t).getLast (by simp) := by
          rw [at'_nat, List.getLast_eq_getElem]; simp
        rw [if_pos (by simp <;> omega), if_pos (by simp <;> omega), drop_at0]
        by_cases h0 : x < 0
        · rw [if_pos h0, checkP, if_neg]
          intro hp
          simp only [placed, Bool.and_eq_true, all_in] at hp
          have := (hp.2 x (by simp)).1
          omega
        · rw [if_neg h0, e1, if_pos (by simp <;> omega), e2]
          by_cases h1 : (x :: t).getLast (by simp) ≥ dim
          · rw [if_pos h1, checkP, if_neg]
            intro hp
            simp only [placed, Bool.and_eq_true, all_in] at hp
            have := (hp.2 _ (List.getLast_mem (by simp : x :: t ≠ []))).2
            omega
          · rw [if_neg h1, checkP, if_pos]
            simp only [placed, hm, hr, Bool.and_eq_true, all_in, true_and]
            exact rising_all hr (fun z hz => by simp only [List.head?_cons, Option.some.injEq] at hz; omega) (fun z hz => by
              rw [List.getLast?_eq_some_getLast (by simp), Option.some.injEq] at hz; omega)
theorem rising_tail {x : Int} {t : List Int} (h : rising (x :: t) = true) : rising t = true := by
  cases t with
  | nil => rfl
  | cons y t => simp only [rising, Bool.and_eq_true] at h ⊢; exact h.2
theorem rising_cons {x : Int} {t : List Int} (h : rising (x :: t) = true) : ∀ y ∈ t, x < y := by
  induction t generalizing x with
  | nil => simp
  | cons y t ih =>
    intro z hz
    simp only [rising, Bool.and_eq_true, decide_eq_true_eq] at h
    have h2 : rising (y :: t) = true := by simp only [rising, Bool.and_eq_true]; exact h.2
    rcases List.mem_cons.1 hz with rfl | hz
    · exact h.1
    · have := ih h2 z hz; omega
theorem rising_mk {x : Int} {t : List Int} (h : rising t = true) (hx : ∀ y ∈ t, x < y) : rising (x :: t) = true := by
  cases t with
  | nil => rfl
  | cons y t =>
    have h1 := hx y (by simp)
    simp only [rising, Bool.and_eq_true] at h ⊢
    exact ⟨by simpa using h1, h⟩

theorem placed_iff {dim : Int} {l : List Int} : checkP dim l = 0 ↔ meas dim = true ∧ rising l = true ∧ ∀ n ∈ l, 0 ≤ n ∧ n < dim := by
  unfold checkP placed
  by_cases h : (meas dim && rising l && l.all fun n => decide (0 ≤ n) && decide (n < dim)) = true
  · rw [if_pos h]
    simp only [Bool.and_eq_true, all_in] at h
    exact ⟨fun _ => ⟨h.1.1, h.1.2, h.2⟩, fun _ => rfl⟩
  · rw [if_neg h]
    simp only [Bool.and_eq_true, all_in] at h
    exact ⟨fun h' => by omega, fun h' => absurd ⟨⟨h'.1, h'.2.1⟩, h'.2.2⟩ h⟩

set_option linter.unusedSimpArgs false
set_option maxRecDepth 100000

theorem rising_iff : ∀ {l : List Int}, rising l = true ↔ l.Pairwise (· < ·)
  | [] => by simp [rising]
  | x :: t => by
    rw [List.pairwise_cons, ← rising_iff]
    exact ⟨fun h => ⟨rising_cons h, rising_tail h⟩, fun h => rising_mk h.2 h.1⟩
theorem rising_ext : ∀ {a b : List Int}, rising a = true → rising b = true → (∀ n, n ∈ a ↔ n ∈ b) → a = b
  | [], [], _, _, _ => rfl
  | [], y :: b, _, _, h => absurd ((h y).2 (by simp)) (by simp)
  | x :: a, [], _, _, h => absurd ((h x).1 (by simp)) (by simp)
  | x :: a, y :: b, ha, hb, h => by
    have hx := rising_cons ha
    have hy := rising_cons hb
    have e : x = y := by
      have h1 := (h x).1 (by simp)
      have h2 := (h y).2 (by simp)
      rcases List.mem_cons.1 h1 with h1 | h1
      · exact h1
      · rcases List.mem_cons.1 h2 with h2 | h2
        · exact h2.symm
        · have := hx y h2; have := hy x h1; omega
    subst e
    rw [rising_ext (rising_tail ha) (rising_tail hb) fun n => ?_]
    constructor
    · intro hn
      rcases List.mem_cons.1 ((h n).1 (List.mem_cons_of_mem _ hn)) with rfl | h1
      · exact absurd (hx _ hn) (by omega)
      · exact h1
    · intro hn
      rcases List.mem_cons.1 ((h n).2 (List.mem_cons_of_mem _ hn)) with rfl | h1
      · exact absurd (hy _ hn) (by omega)
      · exact h1
theorem Gc_eq (n : Int) (v : List Int) : M_index_Gather_1_c n v = some (decide (n < 0) || decide (n ≥ v.length)) := by rw [M_index_Gather_1_c, orB]

theorem IndexFunc_l0 (l v : List Int) (hl : l.length ≤ 4611686018427387904) : ∀ (t : List Int) (k : Nat), l.drop k = t → ∃ e, M_slices_IndexFunc_int_int_index_Gather_1_l0 l v (k : Int) = some e ∧ ((∀ n ∈ t, 0 ≤ n ∧ n < v.length) → e = .inr ()) ∧ (¬ (∀ n ∈ t, 0 ≤ n ∧ n < v.length) → ∃ i : Int, 0 ≤ i ∧ e = .inl i)
  | [], k, h => by
    rw [M_slices_IndexFunc_int_int_index_Gather_1_l0, if_neg (drop_end h)]
    exact ⟨_, rfl, fun _ => rfl, fun h => absurd (by simp) h⟩
  | x :: t, k, h => by
    have h1 := drop_at h
    obtain ⟨e, g1, g2, g3⟩ := IndexFunc_l0 l v hl t (k + 1) h1.2.2
    rw [M_slices_IndexFunc_int_int_index_Gather_1_l0, if_pos h1.1, if_pos (by omega), h1.2.1, Gc_eq, bindS, i64_s (by omega), g1]
    by_cases hx : 0 ≤ x ∧ x < v.length
    · rw [if_neg (by simp; omega)]
      refine ⟨e, rfl, fun h => g2 fun n hn => h n (by simp [hn]), fun h => g3 fun h' => h fun n hn => ?_⟩
      rcases List.mem_cons.1 hn with rfl | hn
      · exact hx
      · exact h' n hn
    · rw [if_pos (by simp; omega)]
      exact ⟨_, rfl, fun h => absurd (h x (by simp)) hx, fun _ => ⟨k, by omega, rfl⟩⟩

theorem Contains_eq (l v : List Int) (hl : l.length ≤ 4611686018427387904) : M_slices_ContainsFunc_int_int_index_Gather_1 l v = some (decide (¬ ∀ n ∈ l, 0 ≤ n ∧ n < (v.length : Int))) := by
  rw [M_slices_ContainsFunc_int_int_index_Gather_1, M_slices_IndexFunc_int_int_index_Gather_1]
  obtain ⟨e, g1, g2, g3⟩ := IndexFunc_l0 l v hl l 0 rfl
  rw [show ((0 : Nat) : Int) = 0 from rfl] at g1
  rw [g1]
  by_cases h : ∀ n ∈ l, 0 ≤ n ∧ n < (v.length : Int)
  · rw [g2 h, decide_eq_false (by simpa using h)]; rfl
  · obtain ⟨i, h0, rfl⟩ := g3 h
    rw [decide_eq_true h]
    simp [bindS, h0]

theorem Gather_l0 (l v : List Int) (hl : l.length ≤ 1099511627776) (hv : ∀ n ∈ l, 0 ≤ n ∧ n < (v.length : Int)) : ∀ (t : List Int) (k : Nat) (acc : List Int), l.drop k = t → acc.length ≤ k → M_index_Gather_l0 l v (k : Int) acc = some (acc ++ t.map (at' v))
  | [], k, acc, h, ha => by
    rw [M_index_Gather_l0, if_neg (drop_end h)]; simp
  | x :: t, k, acc, h, ha => by
    have h1 := drop_at h
    have hx := hv x (List.mem_of_mem_drop (by rw [h]; simp))
    rw [M_index_Gather_l0, if_pos h1.1, if_pos (by omega), h1.2.1, if_pos hx, if_pos (room8 (by simp; omega)), bindS, i64_s (by omega), Gather_l0 l v hl hv t (k + 1) _ h1.2.2 (by simp; omega)]
    simp

theorem Gather_eq (l v : List Int) (hl : l.length ≤ 1099511627776) (hr : rising l = true) (hv : ∀ n ∈ l, 0 ≤ n ∧ n < (v.length : Int)) : M_index_Gather l v = some (l.map (at' v), 0) := by
  have h1 := Gather_l0 l v hl hv l 0 [] rfl (by simp)
  rw [show ((0 : Nat) : Int) = 0 from rfl] at h1
  have hd : decide (¬ ∀ n ∈ l, 0 ≤ n ∧ n < (v.length : Int)) = false := decide_eq_false (fun h => h hv)
  rw [M_index_Gather, rises_eq l (by omega), bindS, hr, Contains_eq l v (by omega), bindS, orB, hd, if_neg (by simp), if_pos (by omega), bindS]
  simp only [Int.toNat_zero, List.replicate_zero]
  rw [h1]; simp

/-- Numbers set at places. -/
def spreadG : List Int → List Int → List Int → List Int
  | out, n :: t, x :: u => spreadG (out.set n.toNat x) t u
  | out, _, _ => out

theorem Spread_l0 (l a : List Int) (hl : l.length ≤ 4611686018427387904) (he : l.length = a.length) (D : Int) (hv : ∀ n ∈ l, 0 ≤ n ∧ n < D) : ∀ (t u : List Int) (k : Nat) (out : List Int), l.drop k = t → a.drop k = u → (out.length : Int) = D → M_index_Spread_l0 l a (k : Int) out = some (spreadG out t u)
  | [], u, k, out, h, h', ho => by
    rw [M_index_Spread_l0, if_neg (drop_end h)]; cases u <;> simp [spreadG]
  | x :: t, [], k, out, h, h', ho => by
    have := List.drop_eq_nil_iff.1 h'
    have := (drop_at h).1
    omega
  | x :: t, y :: u, k, out, h, h', ho => by
    have h1 := drop_at h
    have h2 := drop_at h'
    have hx := hv x (List.mem_of_mem_drop (by rw [h]; simp))
    rw [M_index_Spread_l0, if_pos h1.1, if_pos (by omega), if_pos (by omega), h1.2.1, if_pos (by omega), bindS, h2.2.1, i64_s (by omega), Spread_l0 l a hl he D hv t u (k + 1) _ h1.2.2 h2.2.2 (by simpa using ho)]
    rfl

theorem Spread_eq (dim : Int) (l a : List Int) (hl : l.length ≤ 4611686018427387904) (h : checkP dim l = 0) (he : l.length = a.length) : M_index_Spread dim l a = some (spreadG (List.replicate dim.toNat 0) l a, 0) := by
  have h' := h
  rw [placed_iff] at h
  have hm := h.1
  simp only [meas, Bool.and_eq_true, decide_eq_true_eq] at hm
  have h1 := Spread_l0 l a hl he dim h.2.2 l a 0 (List.replicate dim.toNat 0) rfl rfl (by simp; omega)
  rw [show ((0 : Nat) : Int) = 0 from rfl] at h1
  rw [M_index_Spread, Check_eq dim l hl, bindS, h', if_neg (by simp), if_neg (by omega), if_pos (by omega), bindS, h1, bindS]

end Go.Proofs.YtdgdgfckcnjpfaaGreat.Abs
