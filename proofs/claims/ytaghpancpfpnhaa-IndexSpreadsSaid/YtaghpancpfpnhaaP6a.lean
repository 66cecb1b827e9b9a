/- Places written, plainly: what the program's functions and the document's come to. Conditions: lists that memory can hold. -/
import Derived.Test.YtaghpancpfpnhaaPB
import Derived.Test.YtaghpancpfpnhaaAM
namespace Go.Proofs.Ytaghpancpfpnhaa.Abs
open Go Go.RowKit Go.IntWalk
set_option linter.unusedVariables false

/-- Does a list rise? -/
def rising : List Int → Bool
  | [] => true
  | x :: t => (match t with
    | [] => true
    | y :: _ => decide (x < y)) && rising t

theorem rises_l0 (l : List Int) (hl : l.length ≤ 4611686018427387904) : ∀ (t : List Int) (x : Int) (k : Nat), l.drop k = x :: t → M_index_rises_l0 l ((k + 1 : Nat) : Int) = some (if rising (x :: t) then .inr () else .inl false)
  | [], x, k, h => by
    have h1 := drop_at h
    rw [M_index_rises_l0, if_neg (drop_end h1.2.2)]
    simp [rising]
  | y :: t, x, k, h => by
    have h1 := drop_at h
    have h2 := drop_at h1.2.2
    have e1 : IntKind.i64.wrap (((k + 1 : Nat) : Int) - 1) = (k : Int) := by rw [i64_in _ (by omega)]; omega
    rw [M_index_rises_l0, if_pos h2.1, e1, if_pos (by omega), if_pos (by omega), h1.2.1, h2.2.1, i64_s (by omega), rises_l0 l hl t y (k + 1) h1.2.2]
    by_cases hxy : x < y
    · rw [if_neg (by omega)]; simp [rising, hxy]
    · rw [if_pos (by omega)]; simp [rising, hxy]

theorem rises_eq (l : List Int) (hl : l.length ≤ 4611686018427387904) : M_index_rises l = some (rising l) := by
  cases l with
  | nil => rw [M_index_rises, M_index_rises_l0]; simp [rising]
  | cons x t =>
    have := rises_l0 (x :: t) hl t x 0 rfl
    rw [M_index_rises, show (1 : Int) = ((0 + 1 : Nat) : Int) from rfl, this]
    cases rising (x :: t) <;> rfl

theorem refRises_l0 (l : List Int) (hl : l.length ≤ 4611686018427387904) : ∀ (t : List Int) (x : Int) (k : Nat), l.drop k = x :: t → M_thrumref06_rises_l0 l ((k + 1 : Nat) : Int) = some (if rising (x :: t) then .inr () else .inl false)
  | [], x, k, h => by
    have h1 := drop_at h
    rw [M_thrumref06_rises_l0, if_neg (drop_end h1.2.2)]
    simp [rising]
  | y :: t, x, k, h => by
    have h1 := drop_at h
    have h2 := drop_at h1.2.2
    have e1 : IntKind.i64.wrap (((k + 1 : Nat) : Int) - 1) = (k : Int) := by rw [i64_in _ (by omega)]; omega
    rw [M_thrumref06_rises_l0, if_pos h2.1, e1, if_pos (by omega), if_pos (by omega), h1.2.1, h2.2.1, i64_s (by omega), refRises_l0 l hl t y (k + 1) h1.2.2]
    by_cases hxy : x < y
    · rw [if_neg (by omega)]; simp [rising, hxy]
    · rw [if_pos (by omega)]; simp [rising, hxy]

theorem refRises_eq (l : List Int) (hl : l.length ≤ 4611686018427387904) : M_thrumref06_rises l = some (rising l) := by
  cases l with
  | nil => rw [M_thrumref06_rises, M_thrumref06_rises_l0]; simp [rising]
  | cons x t =>
    have := refRises_l0 (x :: t) hl t x 0 rfl
    rw [M_thrumref06_rises, show (1 : Int) = ((0 + 1 : Nat) : Int) from rfl, this]
    cases rising (x :: t) <;> rfl

/-- May a dimension be? -/
def meas (dim : Int) : Bool := decide (0 < dim) && decide (dim ≤ 4096)
/-- Places that may be: they rise, and lie within. -/
def placed (dim : Int) (l : List Int) : Bool := meas dim && rising l && l.all fun n => decide (0 ≤ n) && decide (n < dim)
def checkP (dim : Int) (l : List Int) : Int := if placed dim l then 0 else 1

theorem rising_all {lo hi : Int} : ∀ {l : List Int}, rising l = true → (∀ x, l.head? = some x → lo ≤ x) → (∀ x, l.getLast? = some x → x < hi) → ∀ n ∈ l, lo ≤ n ∧ n < hi
  | [], _, _, _, n, h => by simp at h
  | [x], _, h1, h2, n, h => by
    simp only [List.mem_singleton] at h; subst h
    exact ⟨h1 _ rfl, h2 _ rfl⟩
  | x :: y :: t, hr, h1, h2, n, h => by
    simp only [rising, Bool.and_eq_true, decide_eq_true_eq] at hr
    have hx := h1 x rfl
    have ih := rising_all (lo := lo) (hi := hi) (l := y :: t) (by simpa only [rising, Bool.and_eq_true] using hr.2) (fun z hz => by
      simp only [List.head?_cons, Option.some.injEq] at hz; subst hz; omega) (fun z hz => h2 z (by rw [List.getLast?_cons_cons]; exact hz))
    rcases List.mem_cons.1 h with rfl | h
    · exact ⟨hx, by have := (ih y (by simp)).2; omega⟩
    · exact ih n h

theorem all_in {dim : Int} {l : List Int} : (l.all fun n => decide (0 ≤ n) && decide (n < dim)) = true ↔ ∀ n ∈ l, 0 ≤ n ∧ n < dim := by
  simp [List.all_eq_true]

theorem measure_eq (dim : Int) : M_index_measure dim = some (meas dim) := by
  rw [M_index_measure, andB]
  simp [meas]

theorem Check_eq (dim : Int) (l : List Int) (hl : l.length ≤ 4611686018427387904) : M_index_Check dim l = some (checkP dim l) := by
  rw [M_index_Check, measure_eq, bindS, rises_eq l hl, bindS, orB]
  cases hm : meas dim with
  | false => simp [checkP, placed, hm]
  | true =>
    cases hr : rising l with
    | false => simp [checkP, placed, hr]
    | true =>
      rw [if_neg (by simp)]
      cases l with
      | nil => simp [checkP, placed, hm, hr]
      | cons x t =>
        have e1 : IntKind.i64.wrap ((((x :: t).length : Nat) : Int) - 1) = ((t.length : Nat) : Int) := by rw [i64_in _ (by simp at hl ⊢; omega)]; simp
        have e2 : at' (x :: t) ((t.length : Nat) : Int) = (x :: t).getLast (by simp) := by
          rw [at'_nat, List.getLast_eq_getElem]; simp
        rw [if_pos (by simp <;> omega), if_pos (by simp <;> omega), drop_at0]
        by_cases h0 : x < 0
        · rw [if_pos h0, checkP, if_neg]
          intro hp
          simp only [placed, Bool.and_eq_true, all_in] at hp
          have := (hp.2 x (by simp)).1
          omega
        · rw [if_neg h0, e1, if_pos (by simp <;> omega), e2]
          by_cases h1 : (x :: t).getLast (by simp) ≥ dim
          · rw [if_pos h1, checkP, if_neg]
            intro hp
            simp only [placed, Bool.and_eq_true, all_in] at hp
            have := (hp.2 _ (List.getLast_mem (by simp : x :: t ≠ []))).2
            omega
          · rw [if_neg h1, checkP, if_pos]
            simp only [placed, hm, hr, Bool.and_eq_true, all_in, true_and]
            exact rising_all hr (fun z hz => by simp only [List.head?_cons, Option.some.injEq] at hz; omega) (fun z hz => by
              rw [List.getLast?_eq_some_getLast (by simp), Option.some.injEq] at hz; omega)

theorem refCheck_l0 (dim : Int) (l : List Int) (hl : l.length ≤ 4611686018427387904) : ∀ (t : List Int) (k : Nat), l.drop k = t → M_thrumref06_Check_l0 dim l (k : Int) = some (if (t.all fun n => decide (0 ≤ n) && decide (n < dim)) then .inr () else .inl 1)
  | [], k, h => by
    rw [M_thrumref06_Check_l0, if_neg (drop_end h)]; rfl
  | x :: t, k, h => by
    have h1 := drop_at h
    rw [M_thrumref06_Check_l0, if_pos h1.1, if_pos (by omega), orB, h1.2.1, i64_s (by omega), refCheck_l0 dim l hl t (k + 1) h1.2.2]
    by_cases hx : 0 ≤ x ∧ x < dim
    · rw [if_neg (by simp; omega)]; simp [hx]
    · rw [if_pos (by simp; omega), if_neg (by simp; omega)]

theorem refCheck_eq (dim : Int) (l : List Int) (hl : l.length ≤ 4611686018427387904) : M_thrumref06_Check dim l = some (checkP dim l) := by
  rw [M_thrumref06_Check, orB, refRises_eq l hl, bindS, orB]
  have hc := refCheck_l0 dim l hl l 0 rfl
  rw [show ((0 : Nat) : Int) = 0 from rfl] at hc
  by_cases hm : meas dim = true
  · have hm' := hm
    simp only [meas, Bool.and_eq_true, decide_eq_true_eq] at hm'
    cases hr : rising l with
    | false => simp [checkP, placed, hr]
    | true =>
      rw [if_neg (by simp; omega), hc]
      by_cases ha : (l.all fun n => decide (0 ≤ n) && decide (n < dim)) = true
      · rw [if_pos ha, checkP, if_pos (by simp only [placed, hm, hr, ha, Bool.and_self])]; rfl
      · rw [if_neg ha, checkP, if_neg (by simp only [placed, hm, hr, Bool.true_and]; exact ha)]; rfl
  · have hm' := hm
    simp only [meas, Bool.and_eq_true, decide_eq_true_eq] at hm'
    rw [if_pos (by simp; omega), checkP, if_neg]
    simp only [placed, Bool.and_eq_true]
    exact fun h => hm h.1.1

/-- A number's code: seven bits a byte. -/
def lebP (n : Int) : List Int := if 127 < n then bOr .u8 (IntKind.u8.wrap n) 128 :: lebP (sShr .u64 n 7) else [IntKind.u8.wrap n]
  termination_by n.toNat
  decreasing_by
  simp only [sShr]
  have : min (7 : Int).toNat IntKind.u64.bits = 7 := by decide
  rw [this, Int.fdiv_eq_ediv_of_nonneg _ (by decide)]
  omega

theorem shr7 (n : Int) : sShr .u64 n 7 = n / 128 := by
  simp only [sShr]
  have : min (7 : Int).toNat IntKind.u64.bits = 7 := by decide
  rw [this, Int.fdiv_eq_ediv_of_nonneg _ (by decide)]; rfl

theorem lebP_le (n : Int) (h : n ≤ 18446744073709551615) : (lebP n).length ≤ 10 := by
  suffices ∀ (k : Nat) (n : Int), n < 128 ^ (k + 1) → (lebP n).length ≤ k + 1 from this 9 n (by omega)
  intro k
  induction k with
  | zero => intro n h; rw [lebP, if_neg (by omega)]; simp
  | succ k ih =>
    intro n h
    rw [lebP]
    split
    · have := ih (sShr .u64 n 7) (by
        rw [shr7]
        have e : (128 : Int) ^ (k + 1 + 1) = 128 * 128 ^ (k + 1) := by rw [Int.pow_succ, Int.mul_comm]
        rw [e] at h
        omega)
      simpa using this
    · simp

theorem leb_put_l0 (b : List Int) (n : Int) (hb : b.length + (lebP n).length ≤ 140737488355328) : ∃ c m, M_leb_put_l0 b n = some (c, m) ∧ c ++ [IntKind.u8.wrap m] = b ++ lebP n := by
  suffices ∀ (k : Nat) (b : List Int) (n : Int), n.toNat ≤ k → b.length + (lebP n).length ≤ 140737488355328 → ∃ c m, M_leb_put_l0 b n = some (c, m) ∧ c ++ [IntKind.u8.wrap m] = b ++ lebP n from this _ b n (Nat.le_refl _) hb
  clear hb n b
  intro k
  induction k with
  | zero =>
    intro b n hn hb
    rw [M_leb_put_l0, if_neg (by omega), lebP, if_neg (by omega)]
    exact ⟨b, n, rfl, rfl⟩
  | succ k ih =>
    intro b n hn hb
    rw [M_leb_put_l0]
    by_cases h : 127 < n
    · rw [lebP, if_pos h] at hb
      simp only [List.length_cons] at hb
      rw [if_pos h, if_pos (room1 (by simp; omega))]
      obtain ⟨c, m, h1, h2⟩ := ih (b ++ [bOr .u8 (IntKind.u8.wrap n) 128]) (sShr .u64 n 7) (by rw [shr7]; omega) (by simp; omega)
      refine ⟨c, m, h1, ?_⟩
      rw [h2]
      conv => rhs; rw [lebP, if_pos h]
      simp
    · rw [if_neg h, lebP, if_neg h]
      exact ⟨b, n, rfl, rfl⟩

theorem leb_put_eq (b : List Int) (n : Int) (hb : b.length + (lebP n).length ≤ 140737488355328) : M_leb_put b n = some (b ++ lebP n) := by
  obtain ⟨c, m, h1, h2⟩ := leb_put_l0 b n hb
  have := congrArg List.length h2
  simp only [List.length_append] at this
  rw [M_leb_put, h1, bindS, if_pos (room1 (by simp only [List.length_append] at this ⊢; omega)), h2]

theorem clone_eq (b : List Int) (hb : b.length ≤ 140737488355328) : M_slices_Clone_byte_byte b = some b := by
  rw [M_slices_Clone_byte_byte]
  simp only [List.nil_append]
  rw [if_pos (room1 hb)]

theorem leb_Put_l0 (ns : List Int) (hn : ns.length ≤ 4611686018427387904) : ∀ (t : List Int) (k : Nat) (b : List Int), ns.drop k = t → b.length + (t.flatMap lebP).length ≤ 140737488355328 → M_leb_Put_l0 ns (k : Int) b = some (b ++ t.flatMap lebP)
  | [], k, b, h, hb => by
    rw [M_leb_Put_l0, if_neg (drop_end h)]; simp
  | x :: t, k, b, h, hb => by
    have h1 := drop_at h
    simp only [List.flatMap_cons, List.length_append] at hb
    rw [M_leb_Put_l0, if_pos h1.1, if_pos (by omega), h1.2.1, leb_put_eq b x (by omega), bindS, i64_s (by omega), leb_Put_l0 ns hn t (k + 1) _ h1.2.2 (by simp only [List.length_append]; omega)]
    simp

theorem leb_Put_eq (b ns : List Int) (hn : ns.length ≤ 4611686018427387904) (hb : b.length + (ns.flatMap lebP).length ≤ 140737488355328) : M_leb_Put b ns = some (b ++ ns.flatMap lebP) := by
  have h1 := leb_Put_l0 ns hn ns 0 b rfl hb
  rw [show ((0 : Nat) : Int) = 0 from rfl] at h1
  rw [M_leb_Put, clone_eq b (by omega), bindS, h1, bindS]

/-- How far each place is from the one ahead. -/
def gaps (last : Int) : List Int → List Int
  | [] => []
  | n :: r => IntKind.u64.wrap (IntKind.i64.wrap (IntKind.i64.wrap (n - last) - 1)) :: gaps n r

theorem gaps_length : ∀ (last : Int) (l : List Int), (gaps last l).length = l.length
  | _, [] => rfl
  | last, n :: r => by simp [gaps, gaps_length n r]

theorem flat_lebP_le : ∀ (l : List Int), (∀ n ∈ l, n ≤ 18446744073709551615) → (l.flatMap lebP).length ≤ 10 * l.length
  | [], _ => by simp
  | n :: l, h => by
    have h1 := lebP_le n (h n (by simp))
    have h2 := flat_lebP_le l fun m hm => h m (by simp [hm])
    simp only [List.flatMap_cons, List.length_append, List.length_cons]
    omega

theorem gaps_u64 : ∀ (last : Int) (l : List Int), ∀ n ∈ gaps last l, 0 ≤ n ∧ n ≤ 18446744073709551615
  | _, [], n, h => by simp [gaps] at h
  | last, m :: r, n, h => by
    simp only [gaps, List.mem_cons] at h
    rcases h with rfl | h
    · exact u64_ge _
    · exact gaps_u64 m r n h

/-- What index.Put writes. -/
def putB (dim : Int) (l : List Int) : List Int := if checkP dim l = 0 then (IntKind.u64.wrap l.length :: gaps (-1) l).flatMap lebP else []

theorem Put_l0 (l : List Int) (hl : l.length ≤ 1099511627776) : ∀ (t : List Int) (k : Nat) (last : Int) (b : List Int), l.drop k = t → b.length + t.length ≤ 1099511627777 → M_index_Put_l0 l (k : Int) last b = some (b ++ gaps last t)
  | [], k, last, b, h, hb => by
    rw [M_index_Put_l0, if_neg (drop_end h)]; simp [gaps]
  | x :: t, k, last, b, h, hb => by
    have h1 := drop_at h
    simp only [List.length_cons] at hb
    rw [M_index_Put_l0, if_pos h1.1, if_pos (by omega), if_pos (room8 (by simp; omega)), bindS, i64_s (by omega), h1.2.1, Put_l0 l hl t (k + 1) x _ h1.2.2 (by simp; omega)]
    simp [gaps]

theorem Put_eq (dim : Int) (l : List Int) (hl : l.length ≤ 1099511627776) : M_index_Put dim l = some (putB dim l, checkP dim l) := by
  rw [M_index_Put, Check_eq dim l (by omega), bindS]
  by_cases h : checkP dim l = 0
  · have e1 : IntKind.i64.wrap ((l.length : Int) + 1) = l.length + 1 := i64_in _ (by omega)
    have h1 := Put_l0 l hl l 0 (-1) [IntKind.u64.wrap (l.length : Int)] rfl (by simp; omega)
    rw [show ((0 : Nat) : Int) = 0 from rfl] at h1
    rw [if_neg (by simp [h]), e1, if_pos (by omega), bindS]
    simp only [Int.toNat_zero, List.replicate_zero, List.nil_append]
    rw [if_pos (room8 (by simp)), bindS, h1, bindS]
    have h2 := flat_lebP_le (IntKind.u64.wrap l.length :: gaps (-1) l) (by
      intro n hn
      rcases List.mem_cons.1 hn with rfl | hn
      · exact (u64_ge _).2
      · exact (gaps_u64 _ _ n hn).2)
    simp only [List.length_cons, gaps_length] at h2
    rw [List.cons_append, List.nil_append, leb_Put_eq [] _ (by simp [gaps_length]; omega) (by simp only [List.length_nil]; omega), bindS, putB, if_pos h, h]
    simp
  · rw [if_pos h, putB, if_neg h]
end Go.Proofs.Ytaghpancpfpnhaa.Abs
