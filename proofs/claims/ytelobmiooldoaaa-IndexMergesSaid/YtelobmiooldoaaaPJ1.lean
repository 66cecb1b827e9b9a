/- Plain facts on codes of numbers. Conditions: none. -/
import Derived.Test.YtelobmiooldoaaaPB
import Derived.Test.YtelobmiooldoaaaIM
namespace Go.Proofs.Ytelobmiooldoaaa.Abs
open Go Go.RowKit Go.IntWalk
set_option linter.unusedVariables false
set_option maxRecDepth 100000

/-- Does a list rise? -/
def rising : List Int → Bool
  | [] => true
  | x :: t => (match t with
    | [] => true
    | y :: _ => decide (x < y)) && rising t

theorem rises_l0 (l : List Int) (hl : l.length ≤ 4611686018427387904) : ∀ (t : List Int) (x : Int) (k : Nat), l.drop k = x :: t → M_index_rises_l0 l ((k + 1 : Nat) : Int) = some (if rising (x :: t) then .inr () else .inl false)
  | [], x, k, h => by
    have h1 := drop_at h
    rw [M_index_rises_l0, if_neg (drop_end h1.2.2)]
    simp [rising]
  | y :: t, x, k, h => by
    have h1 := drop_at h
    have h2 := drop_at h1.2.2
    have e1 : IntKind.i64.wrap (((k + 1 : Nat) : Int) - 1) = (k : Int) := by rw [i64_in _ (by omega)]; omega
    rw [M_index_rises_l0, if_pos h2.1, e1, if_pos (by omega), if_pos (by omega), h1.2.1, h2.2.1, i64_s (by omega), rises_l0 l hl t y (k + 1) h1.2.2]
    by_cases hxy : x < y
    · rw [if_neg (by omega)]; simp [rising, hxy]
    · rw [if_pos (by omega)]; simp [rising, hxy]

theorem rises_eq (l : List Int) (hl : l.length ≤ 4611686018427387904) : M_index_rises l = some (rising l) := by
  cases l with
  | nil => rw [M_index_rises, M_index_rises_l0]; simp [rising]
  | cons x t =>
    have := rises_l0 (x :: t) hl t x 0 rfl
    rw [M_index_rises, show (1 : Int) = ((0 + 1 : Nat) : Int) from rfl, this]
    cases rising (x :: t) <;> rfl

theorem refRises_l0 (l : List Int) (hl : l.length ≤ 4611686018427387904) : ∀ (t : List Int) (x : Int) (k : Nat), l.drop k = x :: t → M_thrumref06_rises_l0 l ((k + 1 : Nat) : Int) = some (if rising (x :: t) then .inr () else .inl false)
  | [], x, k, h => by
    have h1 := drop_at h
    rw [M_thrumref06_rises_l0, if_neg (drop_end h1.2.2)]
    simp [rising]
  | y :: t, x, k, h => by
    have h1 := drop_at h
    have h2 := drop_at h1.2.2
    have e1 : IntKind.i64.wrap (((k + 1 : Nat) : Int) - 1) = (k : Int) := by rw [i64_in _ (by omega)]; omega
    rw [M_thrumref06_rises_l0, if_pos h2.1, e1, if_pos (by omega), if_pos (by omega), h1.2.1, h2.2.1, i64_s (by omega), refRises_l0 l hl t y (k + 1) h1.2.2]
    by_cases hxy : x < y
    · rw [if_neg (by omega)]; simp [rising, hxy]
    · rw [if_pos (by omega)]; simp [rising, hxy]

theorem refRises_eq (l : List Int) (hl : l.length ≤ 4611686018427387904) : M_thrumref06_rises l = some (rising l) := by
  cases l with
  | nil => rw [M_thrumref06_rises, M_thrumref06_rises_l0]; simp [rising]
  | cons x t =>
    have := refRises_l0 (x :: t) hl t x 0 rfl
    rw [M_thrumref06_rises, show (1 : Int) = ((0 + 1 : Nat) : Int) from rfl, this]
    cases rising (x :: t) <;> rfl

/-- May a dimension be? -/
def meas (dim : Int) : Bool := decide (0 < dim) && decide (dim ≤ 4096)
/-- Places that may be: they rise, and lie within. -/
def placed (dim : Int) (l : List Int) : Bool := meas dim && rising l && l.all fun n => decide (0 ≤ n) && decide (n < dim)
def checkP (dim : Int) (l : List Int) : Int := if placed dim l then 0 else 1

theorem rising_all {lo hi : Int} : ∀ {l : List Int}, rising l = true → (∀ x, l.head? = some x → lo ≤ x) → (∀ x, l.getLast? = some x → x < hi) → ∀ n ∈ l, lo ≤ n ∧ n < hi
  | [], _, _, _, n, h => by simp at h
  | [x], _, h1, h2, n, h => by
    simp only [List.mem_singleton] at h; subst h
    exact ⟨h1 _ rfl, h2 _ rfl⟩
  | x :: y :: t, hr, h1, h2, n, h => by
    simp only [rising, Bool.and_eq_true, decide_eq_true_eq] at hr
    have hx := h1 x rfl
    have ih := rising_all (lo := lo) (hi := hi) (l := y :: t) (by simpa only [rising, Bool.and_eq_true] using hr.2) (fun z hz => by
      simp only [List.head?_cons, Option.some.injEq] at hz; subst hz; omega) (fun z hz => h2 z (by rw [List.getLast?_cons_cons]; exact hz))
    rcases List.mem_cons.1 h with rfl | h
    · exact ⟨hx, by have := (ih y (by simp)).2; omega⟩
    · exact ih n h

theorem all_in {dim : Int} {l : List Int} : (l.all fun n => decide (0 ≤ n) && decide (n < dim)) = true ↔ ∀ n ∈ l, 0 ≤ n ∧ n < dim := by
  simp [List.all_eq_true]

theorem measure_eq (dim : Int) : M_index_measure dim = some (meas dim) := by
  rw [M_index_measure, andB]
  simp [meas]

theorem Check_eq (dim : Int) (l : List Int) (hl : l.length ≤ 4611686018427387904) : M_index_Check dim l = some (checkP dim l) := by
  rw [M_index_Check, measure_eq, bindS, rises_eq l hl, bindS, orB]
  cases hm : meas dim with
  | false => simp [checkP, placed, hm]
  | true =>
    cases hr : rising l with
    | false => simp [checkP, placed, hr]
    | true =>
      rw [if_neg (by simp)]
      cases l with
      | nil => simp [checkP, placed, hm, hr]
      | cons x t =>
        have e1 : IntKind.i64.wrap ((((x :: t).length : Nat) : Int) - 1) = ((t.length : Nat) : Int) := by rw [i64_in _ (by simp at hl ⊢; omega)]; simp
        have e2 : at' (x :: t) ((t.length : Nat) : Int) = (x :: t).getLast (by simp) := by
          rw [at'_nat, List.getLast_eq_getElem]; simp
        rw [if_pos (by simp <;> omega), if_pos (by simp <;> omega), drop_at0]
        by_cases h0 : x < 0
        · rw [if_pos h0, checkP, if_neg]
          intro hp
          simp only [placed, Bool.and_eq_true, all_in] at hp
          have := (hp.2 x (by simp)).1
          omega
        · rw [if_neg h0, e1, if_pos (by simp <;> omega), e2]
          by_cases h1 : (x :: t).getLast (by simp) ≥ dim
          · rw [if_pos h1, checkP, if_neg]
            intro hp
            simp only [placed, Bool.and_eq_true, all_in] at hp
            have := (hp.2 _ (List.getLast_mem (by simp : x :: t ≠ []))).2
            omega
          · rw [if_neg h1, checkP, if_pos]
            simp only [placed, hm, hr, Bool.and_eq_true, all_in, true_and]
            exact rising_all hr (fun z hz => by simp only [List.head?_cons, Option.some.injEq] at hz; omega) (fun z hz => by
              rw [List.getLast?_eq_some_getLast (by simp), Option.some.injEq] at hz; omega)

/-- A number's code: seven bits a byte. -/
def lebP (n : Int) : List Int := if 127 < n then bOr .u8 (IntKind.u8.wrap n) 128 :: lebP (sShr .u64 n 7) else [IntKind.u8.wrap n]
  termination_by n.toNat
  decreasing_by
  simp only [sShr]
  have : min (7 : Int).toNat IntKind.u64.bits = 7 := by decide
  rw [this, Int.fdiv_eq_ediv_of_nonneg _ (by decide)]
  omega

theorem shr7 (n : Int) : sShr .u64 n 7 = n / 128 := by
  simp only [sShr]
  have : min (7 : Int).toNat IntKind.u64.bits = 7 := by decide
  rw [this, Int.fdiv_eq_ediv_of_nonneg _ (by decide)]; rfl

theorem lebP_le (n : Int) (h : n ≤ 18446744073709551615) : (lebP n).length ≤ 10 := by
  suffices ∀ (k : Nat) (n : Int), n < 128 ^ (k + 1) → (lebP n).length ≤ k + 1 from this 9 n (by omega)
  intro k
  induction k with
  | zero => intro n h; rw [lebP, if_neg (by omega)]; simp
  | succ k ih =>
    intro n h
    rw [lebP]
    split
    · have := ih (sShr .u64 n 7) (by
        rw [shr7]
        have e : (128 : Int) ^ (k + 1 + 1) = 128 * 128 ^ (k + 1) := by rw [Int.pow_succ, Int.mul_comm]
        rw [e] at h
        omega)
      simpa using this
    · simp

theorem leb_put_l0 (b : List Int) (n : Int) (hb : b.length + (lebP n).length ≤ 140737488355328) : ∃ c m, M_leb_put_l0 b n = some (c, m) ∧ c ++ [IntKind.u8.wrap m] = b ++ lebP n := by
  suffices ∀ (k : Nat) (b : List Int) (n : Int), n.toNat ≤ k → b.length + (lebP n).length ≤ 140737488355328 → ∃ c m, M_leb_put_l0 b n = some (c, m) ∧ c ++ [IntKind.u8.wrap m] = b ++ lebP n from this _ b n (Nat.le_refl _) hb
  clear hb n b
  intro k
  induction k with
  | zero =>
    intro b n hn hb
    rw [M_leb_put_l0, if_neg (by omega), lebP, if_neg (by omega)]
    exact ⟨b, n, rfl, rfl⟩
  | succ k ih =>
    intro b n hn hb
    rw [M_leb_put_l0]
    by_cases h : 127 < n
    · rw [lebP, if_pos h] at hb
      simp only [List.length_cons] at hb
      rw [if_pos h, if_pos (room1 (by simp; omega))]
      obtain ⟨c, m, h1, h2⟩ := ih (b ++ [bOr .u8 (IntKind.u8.wrap n) 128]) (sShr .u64 n 7) (by rw [shr7]; omega) (by simp; omega)
      refine ⟨c, m, h1, ?_⟩
      rw [h2]
      conv => rhs; rw [lebP, if_pos h]
      simp
    · rw [if_neg h, lebP, if_neg h]
      exact ⟨b, n, rfl, rfl⟩

theorem leb_put_eq (b : List Int) (n : Int) (hb : b.length + (lebP n).length ≤ 140737488355328) : M_leb_put b n = some (b ++ lebP n) := by
  obtain ⟨c, m, h1, h2⟩ := leb_put_l0 b n hb
  have := congrArg List.length h2
  simp only [List.length_append] at this
  rw [M_leb_put, h1, bindS, if_pos (room1 (by simp only [List.length_append] at this ⊢; omega)), h2]

theorem clone_eq (b : List Int) (hb : b.length ≤ 140737488355328) : M_slices_Clone_byte_byte b = some b := by
  rw [M_slices_Clone_byte_byte]
  simp only [List.nil_append]
  rw [if_pos (room1 hb)]

theorem leb_Put_l0 (ns : List Int) (hn : ns.length ≤ 4611686018427387904) : ∀ (t : List Int) (k : Nat) (b : List Int), ns.drop k = t → b.length + (t.flatMap lebP).length ≤ 140737488355328 → M_leb_Put_l0 ns (k : Int) b = some (b ++ t.flatMap lebP)
  | [], k, b, h, hb => by
    rw [M_leb_Put_l0, if_neg (drop_end h)]; simp
  | x :: t, k, b, h, hb => by
    have h1 := drop_at h
    simp only [List.flatMap_cons, List.length_append] at hb
    rw [M_leb_Put_l0, if_pos h1.1, if_pos (by omega), h1.2.1, leb_put_eq b x (by omega), bindS, i64_s (by omega), leb_Put_l0 ns hn t (k + 1) _ h1.2.2 (by simp only [List.length_append]; omega)]
    simp

theorem leb_Put_eq (b ns : List Int) (hn : ns.length ≤ 4611686018427387904) (hb : b.length + (ns.flatMap lebP).length ≤ 140737488355328) : M_leb_Put b ns = some (b ++ ns.flatMap lebP) := by
  have h1 := leb_Put_l0 ns hn ns 0 b rfl hb
  rw [show ((0 : Nat) : Int) = 0 from rfl] at h1
  rw [M_leb_Put, clone_eq b (by omega), bindS, h1, bindS]

/-- How far each place is from the one ahead. -/
def gaps (last : Int) : List Int → List Int
  | [] => []
  | n :: r => IntKind.u64.wrap (IntKind.i64.wrap (IntKind.i64.wrap (n - last) - 1)) :: gaps n r

theorem gaps_length : ∀ (last : Int) (l : List Int), (gaps last l).length = l.length
  | _, [] => rfl
  | last, n :: r => by simp [gaps, gaps_length n r]

theorem flat_lebP_le : ∀ (l : List Int), (∀ n ∈ l, n ≤ 18446744073709551615) → (l.flatMap lebP).length ≤ 10 * l.length
  | [], _ => by simp
  | n :: l, h => by
    have h1 := lebP_le n (h n (by simp))
    have h2 := flat_lebP_le l fun m hm => h m (by simp [hm])
    simp only [List.flatMap_cons, List.length_append, List.length_cons]
    omega

theorem gaps_u64 : ∀ (last : Int) (l : List Int), ∀ n ∈ gaps last l, 0 ≤ n ∧ n ≤ 18446744073709551615
  | _, [], n, h => by simp [gaps] at h
  | last, m :: r, n, h => by
    simp only [gaps, List.mem_cons] at h
    rcases h with rfl | h
    · exact u64_ge _
    · exact gaps_u64 m r n h

/-- What index.Put writes. -/
def putB (dim : Int) (l : List Int) : List Int := if checkP dim l = 0 then (IntKind.u64.wrap l.length :: gaps (-1) l).flatMap lebP else []

theorem Put_l0 (l : List Int) (hl : l.length ≤ 1099511627776) : ∀ (t : List Int) (k : Nat) (last : Int) (b : List Int), l.drop k = t → b.length + t.length ≤ 1099511627777 → M_index_Put_l0 l (k : Int) last b = some (b ++ gaps last t)
  | [], k, last, b, h, hb => by
    rw [M_index_Put_l0, if_neg (drop_end h)]; simp [gaps]
  | x :: t, k, last, b, h, hb => by
    have h1 := drop_at h
    simp only [List.length_cons] at hb
    rw [M_index_Put_l0, if_pos h1.1, if_pos (by omega), if_pos (room8 (by simp; omega)), bindS, i64_s (by omega), h1.2.1, Put_l0 l hl t (k + 1) x _ h1.2.2 (by simp; omega)]
    simp [gaps]

theorem Put_eq (dim : Int) (l : List Int) (hl : l.length ≤ 1099511627776) : M_index_Put dim l = some (putB dim l, checkP dim l) := by
  rw [M_index_Put, Check_eq dim l (by omega), bindS]
  by_cases h : checkP dim l = 0
  · have e1 : IntKind.i64.wrap ((l.length : Int) + 1) = l.length + 1 := i64_in _ (by omega)
    have h1 := Put_l0 l hl l 0 (-1) [IntKind.u64.wrap (l.length : Int)] rfl (by simp; omega)
    rw [show ((0 : Nat) : Int) = 0 from rfl] at h1
    rw [if_neg (by simp [h]), e1, if_pos (by omega), bindS]
    simp only [Int.toNat_zero, List.replicate_zero, List.nil_append]
    rw [if_pos (room8 (by simp)), bindS, h1, bindS]
    have h2 := flat_lebP_le (IntKind.u64.wrap l.length :: gaps (-1) l) (by
      intro n hn
      rcases List.mem_cons.1 hn with rfl | hn
      · exact (u64_ge _).2
      · exact (gaps_u64 _ _ n hn).2)
    simp only [List.length_cons, gaps_length] at h2
    rw [List.cons_append, List.nil_append, leb_Put_eq [] _ (by simp [gaps_length]; omega) (by simp only [List.length_nil]; omega), bindS, putB, if_pos h, h]
    simp
  · rw [if_pos h, putB, if_neg h]

def U8s (b : List Int) : Prop := ∀ x ∈ b, 0 ≤ x ∧ x ≤ 255

theorem and127 {x : Int} (h0 : 0 ≤ x) (h1 : x ≤ 255) : bAnd .u8 x 127 = x % 128 := by
  have h : ∀ i : Fin 256, bAnd .u8 ((i.val : Nat) : Int) 127 = ((i.val : Nat) : Int) % 128 := by decide +kernel
  have := h ⟨x.toNat, by omega⟩
  simpa [Int.toNat_of_nonneg h0] using this

/-- A code read on, from a place and what was read. -/
def getGo (at0 : Int) : List Int → Nat → Int → Int × Int × Int
  | [], _, _ => (0, 0, 5)
  | x :: c, k, n =>
    if (k = 9 ∧ 1 < x) ∨ (x = 0 ∧ 0 < k) then (0, 0, 6)
    else if x < 128 then (bOr .u64 n (sShl .u64 (x % 128) (7 * (k : Int))), IntKind.i64.wrap (at0 + k) + 1, 0)
    else getGo at0 c (k + 1) (bOr .u64 n (sShl .u64 (x % 128) (7 * (k : Int))))

/-- A code read. -/
def getP (b : List Int) (at0 : Int) : Int × Int × Int := if at0 < 0 then (0, 0, 1) else getGo at0 (b.drop at0.toNat) 0 0

theorem leb_Get_l0 (at0 : Int) (y : List Int) (h0 : 0 ≤ at0) (ha : at0 + y.length ≤ 9223372036854775806 ∨ y = []) (hu : U8s y) : ∀ (c : List Int) (k : Nat) (n : Int), k ≤ 9 → y.drop k = c →
    M_leb_Get_l0 at0 y (k : Int) n = some (if getGo at0 c k n = (0, 0, 5) ∧ (∀ x ∈ c, 128 ≤ x) then .inr () else .inl (getGo at0 c k n)) := by
  intro c
  induction c with
  | nil =>
    intro k n hk h
    rw [M_leb_Get_l0, if_neg (drop_end h)]; simp [getGo]
  | cons x c ih =>
    intro k n hk h
    have h1 := drop_at h
    have hx : 0 ≤ x ∧ x ≤ 255 := hu x (List.mem_of_mem_drop (by rw [h]; simp))
    have ha' : at0 + y.length ≤ 9223372036854775806 := by
      rcases ha with ha | rfl
      · exact ha
      · simp at h
    rw [M_leb_Get_l0, if_pos h1.1, if_pos (by omega), h1.2.1]
    simp only [orB, andB]
    have e1 : IntKind.i64.wrap (7 * (k : Int)) = 7 * k := i64_in _ (by omega)
    have e2 : IntKind.i64.wrap (at0 + (k : Int)) = at0 + k := i64_in _ (by omega)
    have e3 : IntKind.u64.wrap (bAnd .u8 x 127) = x % 128 := by rw [and127 hx.1 hx.2, u64_in _ (by omega)]
    by_cases hb : (k = 9 ∧ 1 < x) ∨ (x = 0 ∧ 0 < k)
    · rw [if_pos (by simp; omega), getGo, if_pos hb]
      simp
    · rw [if_neg (by simp; omega), e1, if_pos (by omega), e3, bindS, getGo, if_neg hb]
      by_cases hx1 : x < 128
      · rw [if_pos hx1, if_pos hx1, e2]
        rw [i64_in (at0 + k + 1) (by omega), if_neg (by simp)]
      · rw [if_neg hx1, if_neg hx1, i64_s (by omega), ih (k + 1) _ (by omega) h1.2.2]
        simp only [List.mem_cons, forall_eq_or_imp, show 128 ≤ x by omega, true_and]

theorem cut_none {α : Type} (l : List α) (a : Int) (h : a ≤ l.length) : cut' l (some a) none = l.drop a.toNat := by
  simp [cut']

theorem leb_Get_eq (b : List Int) (at0 : Int) (hb : b.length ≤ 4611686018427387904) (hu : U8s b) (hat : at0 ≤ 9223372036854775807) : M_leb_Get b at0 = some (getP b at0) := by
  rw [M_leb_Get, getP]
  by_cases h0 : at0 < 0
  · rw [if_pos h0, if_pos h0]
  rw [if_neg h0, if_neg h0]
  have hmin : (if (b.length : Int) < at0 then (b.length : Int) else at0).toNat = min at0.toNat b.length := by
    split <;> omega
  have hd : cut' b (some (if (b.length : Int) < at0 then (b.length : Int) else at0)) none = b.drop at0.toNat := by
    rw [cut_none _ _ (by split <;> omega), hmin]
    rcases Nat.le_total at0.toNat b.length with h | h
    · rw [Nat.min_eq_left h]
    · rw [Nat.min_eq_right h, List.drop_eq_nil_of_le (Nat.le_refl _), List.drop_eq_nil_of_le h]
  rw [if_pos (by simp only [cutOk, Option.getD_some, Option.getD_none]; split <;> omega), hd, bindS]
  have hl := leb_Get_l0 at0 (b.drop at0.toNat) (by omega) (by
    rcases Nat.lt_or_ge at0.toNat b.length with h | h
    · left; simp only [List.length_drop]; omega
    · right; exact List.drop_eq_nil_of_le h) (fun x hx => hu x (List.mem_of_mem_drop hx)) (b.drop at0.toNat) 0 0 (by omega) rfl
  rw [show ((0 : Nat) : Int) = 0 from rfl] at hl
  rw [hl]
  by_cases hc : getGo at0 (b.drop at0.toNat) 0 0 = (0, 0, 5) ∧ ∀ x ∈ b.drop at0.toNat, 128 ≤ x
  · rw [if_pos hc, hc.1]; rfl
  · rw [if_neg hc]; rfl

theorem getGo_err (at0 : Int) : ∀ (c : List Int) (k : Nat) (n : Int), (getGo at0 c k n).2.2 = 0 ∨ getGo at0 c k n = (0, 0, 5) ∨ getGo at0 c k n = (0, 0, 6)
  | [], k, n => by simp [getGo]
  | x :: c, k, n => by
    rw [getGo]
    split
    · simp
    · split
      · simp
      · exact getGo_err at0 c _ _

theorem getGo_at (at0 : Int) (h0 : 0 ≤ at0) (B : Int) (hB : B ≤ 9223372036854775806) (hB0 : 0 ≤ B) : ∀ (c : List Int) (k : Nat) (n : Int), at0 + k + c.length ≤ B ∨ c = [] → 0 ≤ (getGo at0 c k n).2.1 ∧ (getGo at0 c k n).2.1 ≤ B
  | [], k, n, _ => by simp [getGo, hB0]
  | x :: c, k, n, h => by
    simp only [List.length_cons, reduceCtorEq, or_false] at h
    rw [getGo]
    split
    · simp [hB0]
    · split
      · simp only
        rw [i64_in _ (by omega)]; omega
      · exact getGo_at at0 h0 B hB hB0 c (k + 1) _ (.inl (by omega))

theorem getP_at (b : List Int) (at0 : Int) (hb : b.length ≤ 4611686018427387904) : 0 ≤ (getP b at0).2.1 ∧ (getP b at0).2.1 ≤ b.length := by
  unfold getP
  split
  · simp
  · rename_i h
    refine getGo_at at0 (by omega) b.length (by omega) (by omega) _ 0 0 ?_
    rcases Nat.lt_or_ge at0.toNat b.length with h1 | h1
    · left; simp only [List.length_drop]; omega
    · right; exact List.drop_eq_nil_of_le h1

theorem getGo_u64 (at0 : Int) : ∀ (c : List Int) (k : Nat) (n : Int), 0 ≤ (getGo at0 c k n).1 ∧ (getGo at0 c k n).1 ≤ 18446744073709551615
  | [], k, n => by simp [getGo]
  | x :: c, k, n => by
    rw [getGo]
    split
    · simp
    · split
      · exact u64_ge _
      · exact getGo_u64 at0 c (k + 1) _
theorem getP_u64 (b : List Int) (at0 : Int) : 0 ≤ (getP b at0).1 ∧ (getP b at0).1 ≤ 18446744073709551615 := by
  unfold getP
  split
  · simp
  · exact getGo_u64 _ _ _ _

/-- So many places read on: from where, behind which place, and those that were read. -/
def iget (dim : Int) (b : List Int) : Nat → Int → Int → List Int → List Int × Int × Int
  | 0, at0, _, acc => (acc, at0, 0)
  | m + 1, at0, last, acc =>
    if (getP b at0).2.2 ≠ 0 then ([], 0, (getP b at0).2.2)
    else if dim - 1 - last ≤ (getP b at0).1 then ([], 0, 6)
    else iget dim b m (getP b at0).2.1 (last + 1 + (getP b at0).1) (acc ++ [last + 1 + (getP b at0).1])

/-- What index.Get answers. -/
def igetP (dim : Int) (b : List Int) (at0 : Int) : List Int × Int × Int :=
  if meas dim = false then ([], 0, 1)
  else if (getP b at0).2.2 ≠ 0 then ([], 0, (getP b at0).2.2)
  else if dim < (getP b at0).1 then ([], 0, 6)
  else iget dim b (getP b at0).1.toNat (getP b at0).2.1 (-1) []

theorem iGet_l0 (dim : Int) (hd : dim ≤ 4096) (b : List Int) (hb : b.length ≤ 4611686018427387904) (hu : U8s b) (r2 : Int × Int × Int) (hr : r2.1 ≤ 4096) : ∀ (j i : Nat) (last : Int) (acc : List Int) (at0 : Int), (i : Int) + j = r2.1 → acc.length ≤ i → at0 ≤ 9223372036854775807 → -1 ≤ last → last < dim →
    ∃ p q, M_index_Get_l0 dim b r2 (i : Int) last acc 0 at0 = some ((iget dim b j at0 last acc).2.2, p, q) ∧ ((iget dim b j at0 last acc).2.2 = 0 → p = (iget dim b j at0 last acc).2.1 ∧ q = (iget dim b j at0 last acc).1) ∧ ((iget dim b j at0 last acc).2.2 ≠ 0 → iget dim b j at0 last acc = ([], 0, (iget dim b j at0 last acc).2.2)) := by
  intro j
  induction j with
  | zero =>
    intro i last acc at0 hi ha hat hl1 hl2
    rw [M_index_Get_l0, andB, if_neg (by simp; omega)]
    exact ⟨at0, acc, rfl, fun _ => ⟨rfl, rfl⟩, fun h => absurd rfl h⟩
  | succ j ih =>
    intro i last acc at0 hi ha hat hl1 hl2
    rw [M_index_Get_l0, andB, if_pos (by simp; omega), leb_Get_eq b at0 hb hu hat, bindS]
    by_cases he : (getP b at0).2.2 ≠ 0
    · rw [if_pos he]
      simp only [iget, if_pos he]
      exact ⟨_, _, rfl, fun h => absurd h he, fun _ => trivial⟩
    · have e1 : IntKind.u64.wrap (IntKind.i64.wrap (IntKind.i64.wrap (dim - 1) - last)) = dim - 1 - last := by
        rw [i64_in (dim - 1) (by omega), i64_in _ (by omega), u64_in _ (by omega)]
      rw [if_neg he, e1]
      have h1 := getP_u64 b at0
      have h2 := getP_at b at0 hb
      by_cases hf : dim - 1 - last ≤ (getP b at0).1
      · rw [if_pos hf]
        simp only [iget, if_neg he, if_pos hf]
        exact ⟨_, _, rfl, fun h => absurd h (by decide), fun _ => trivial⟩
      · have e2 : IntKind.i64.wrap (last + IntKind.i64.wrap (1 + IntKind.i64.wrap (getP b at0).1)) = last + 1 + (getP b at0).1 := by
          rw [i64_in (getP b at0).1 (by omega), i64_in (1 + (getP b at0).1) (by omega), i64_in _ (by omega)]; omega
        rw [if_neg hf, e2, bindS, if_pos (room8 (by simp; omega)), bindS, u64_s (by omega)]
        simp only [iget, if_neg he, if_neg hf]
        have he' : (getP b at0).2.2 = 0 := by simpa using he
        rw [he']
        exact ih (i + 1) _ _ _ (by omega) (by simp; omega) (by omega) (by omega) (by omega)

theorem iGet_eq (dim : Int) (b : List Int) (at0 : Int) (hb : b.length ≤ 4611686018427387904) (hu : U8s b) (hat : at0 ≤ 9223372036854775807) : M_index_Get dim b at0 = some (igetP dim b at0) := by
  rw [M_index_Get, measure_eq, bindS, igetP]
  cases hm : meas dim with
  | false => rfl
  | true =>
    have hm' := hm
    simp only [meas, Bool.and_eq_true, decide_eq_true_eq] at hm'
    rw [if_neg (by simp), if_neg (by simp), leb_Get_eq b at0 hb hu hat, bindS, andB, u64_in dim (by omega)]
    have h1 := getP_u64 b at0
    have h2 := getP_at b at0 hb
    by_cases he : (getP b at0).2.2 ≠ 0
    · rw [if_neg (by simp [he]), bindS, if_pos he, M_index_Get_l0, andB, if_neg (by simp [he]), bindS, if_pos he]
    · have he' : (getP b at0).2.2 = 0 := by simpa using he
      rw [if_neg he, he']
      by_cases hf : dim < (getP b at0).1
      · rw [if_pos (by simp; omega), bindS, if_pos hf, M_index_Get_l0, andB, if_neg (by simp), bindS, if_pos (by simp)]
      · rw [if_neg (by simp; omega), bindS, if_neg hf]
        obtain ⟨p, q, g1, g2, g3⟩ := iGet_l0 dim hm'.2 b hb hu (getP b at0) (by omega) (getP b at0).1.toNat 0 (-1) [] (getP b at0).2.1 (by omega) (by simp) (by omega) (by omega) (by omega)
        rw [show ((0 : Nat) : Int) = 0 from rfl] at g1
        rw [g1, bindS]
        by_cases hz : (iget dim b (getP b at0).1.toNat (getP b at0).2.1 (-1) []).2.2 = 0
        · rw [if_neg (by simpa using hz)]
          obtain ⟨rfl, rfl⟩ := g2 hz
          generalize iget dim b (getP b at0).1.toNat (getP b at0).2.1 (-1) [] = R at hz
          obtain ⟨x, y, z⟩ := R
          simp only at hz; subst hz; rfl
        · rw [if_pos hz]
          exact congrArg some (g3 hz).symm

theorem strB_list (l : List Int) : (strB l).toList = l.map fun x => UInt8.ofNat x.toNat := by
  rw [ByteArray.toList_eq, strB, strOf]
  simp only [List.map_map]
  rfl

theorem u8_map_inj : ∀ {a b : List Int}, U8s a → U8s b → a.map (fun x => UInt8.ofNat x.toNat) = b.map (fun x => UInt8.ofNat x.toNat) → a = b
  | [], [], _, _, _ => rfl
  | [], y :: b, _, _, h => by simp at h
  | x :: a, [], _, _, h => by simp at h
  | x :: a, y :: b, ha, hb, h => by
    simp only [List.map_cons, List.cons.injEq] at h
    have hx := ha x (by simp)
    have hy := hb y (by simp)
    have h3 := congrArg UInt8.toNat h.1
    simp only [UInt8.toNat_ofNat'] at h3
    rw [u8_map_inj (fun z hz => ha z (by simp [hz])) (fun z hz => hb z (by simp [hz])) h.2]
    congr 1
    omega

theorem Same_eq (a b : List Int) (ha : U8s a) (hb : U8s b) : M_thrumref03_Same a b = some (decide (a = b)) := by
  rw [M_thrumref03_Same]
  congr 1
  by_cases h : a = b
  · subst h; simp
  · rw [decide_eq_false h]
    rw [beq_eq_false_iff_ne]
    rw [strB_list, strB_list]
    exact fun e => h (u8_map_inj ha hb e)

theorem Equal_l0 (a b : List Int) (hl : a.length = b.length) (hb : a.length ≤ 4611686018427387904) : ∀ (t u : List Int) (k : Nat), a.drop k = t → b.drop k = u → M_thrumref06_Equal_l0 a b (k : Int) = some (if t = u then .inr () else .inl false)
  | [], u, k, h1, h2 => by
    have := List.drop_eq_nil_iff.1 h1
    have h3 : u = [] := by rw [← h2]; exact List.drop_eq_nil_of_le (by omega)
    rw [M_thrumref06_Equal_l0, if_neg (drop_end h1), h3]; rfl
  | x :: t, [], k, h1, h2 => by
    have := List.drop_eq_nil_iff.1 h2
    have := (drop_at h1).1
    omega
  | x :: t, y :: u, k, h1, h2 => by
    have g1 := drop_at h1
    have g2 := drop_at h2
    rw [M_thrumref06_Equal_l0, if_pos g1.1, if_pos (by omega), if_pos (by omega), g1.2.1, g2.2.1, i64_s (by omega), Equal_l0 a b hl hb t u (k + 1) g1.2.2 g2.2.2]
    by_cases hxy : x = y
    · subst hxy; simp
    · simp [hxy]

theorem Equal_eq (a b : List Int) (hb : a.length ≤ 4611686018427387904) : M_thrumref06_Equal a b = some (decide (a = b)) := by
  rw [M_thrumref06_Equal]
  by_cases hl : a.length = b.length
  · have := Equal_l0 a b hl hb a b 0 rfl rfl
    rw [show ((0 : Nat) : Int) = 0 from rfl] at this
    rw [if_neg (by omega), this]
    by_cases h : a = b
    · simp [h]
    · simp [h]
  · rw [if_pos (by omega), decide_eq_false (fun h => hl (by rw [h]))]

theorem lebP_small {n : Int} (h : ¬ 127 < n) : lebP n = [IntKind.u8.wrap n] := by rw [lebP, if_neg h]

theorem live_put : putB 9 [1, 2, 5] = [3, 1, 0, 2] := by
  have : checkP 9 [1, 2, 5] = 0 := by decide
  rw [putB, if_pos this]
  have h1 : (IntKind.u64.wrap ([1, 2, 5] : List Int).length :: gaps (-1) [1, 2, 5]) = [3, 1, 0, 2] := by decide
  rw [h1]
  simp only [List.flatMap_cons, List.flatMap_nil]
  rw [lebP_small (by omega), lebP_small (by omega), lebP_small (by omega), lebP_small (by omega)]
  decide

theorem live6_eq : M_thrumlaw06_live = some true := by
  rw [M_thrumlaw06_live, Put_eq 9 [1, 2, 5] (by decide), bindS, live_put, iGet_eq 9 [3, 1, 0, 2] 0 (by decide) (by simp [U8s]) (by decide), bindS, Same_eq _ _ (by simp [U8s]) (by simp [U8s]), bindS]
  have h1 : checkP 9 [1, 2, 5] = 0 := by decide
  have h2 : igetP 9 [3, 1, 0, 2] 0 = ([1, 2, 5], 4, 0) := by decide
  rw [h1, h2, Equal_eq _ _ (by decide)]
  rfl

theorem few1_eq (l : List Int) (hl : l.length ≤ 4611686018427387904) : M_thrumlaw06_few [l] = some (decide (l.length ≤ 600)) := by
  rw [M_thrumlaw06_few, M_thrumlaw06_few_l0, if_pos (by simp), if_pos (by simp), M_thrumlaw06_few_l0, if_neg (by rw [i64_in _ (by omega)]; simp), bindS, andB, drop_at0]
  have : IntKind.i64.wrap (0 + (l.length : Int)) = l.length := by rw [i64_in _ (by omega)]; omega
  rw [this]
  by_cases h : l.length ≤ 600
  · simp [h]; omega
  · simp [h]; omega

theorem lebP_u8 : ∀ (k : Nat) (n : Int), n.toNat ≤ k → U8s (lebP n) := by
  intro k
  induction k with
  | zero =>
    intro n h x hx
    rw [lebP_small (by omega), List.mem_singleton] at hx; subst hx
    exact u8_ge _
  | succ k ih =>
    intro n h x hx
    rw [lebP] at hx
    split at hx
    · rcases List.mem_cons.1 hx with rfl | hx
      · exact u8_ge _
      · exact ih _ (by rw [shr7]; omega) x hx
    · simp only [List.mem_singleton] at hx; subst hx
      exact u8_ge _

theorem putB_u8 (dim : Int) (l : List Int) : U8s (putB dim l) := by
  unfold putB
  split
  · intro x hx
    obtain ⟨n, _, hn⟩ := List.mem_flatMap.1 hx
    exact lebP_u8 _ n (Nat.le_refl _) x hn
  · intro x hx; simp at hx
theorem rising_tail {x : Int} {t : List Int} (h : rising (x :: t) = true) : rising t = true := by
  cases t with
  | nil => rfl
  | cons y t => simp only [rising, Bool.and_eq_true] at h ⊢; exact h.2
theorem rising_cons {x : Int} {t : List Int} (h : rising (x :: t) = true) : ∀ y ∈ t, x < y := by
  induction t generalizing x with
  | nil => simp
  | cons y t ih =>
    intro z hz
    simp only [rising, Bool.and_eq_true, decide_eq_true_eq] at h
    have h2 : rising (y :: t) = true := by simp only [rising, Bool.and_eq_true]; exact h.2
    rcases List.mem_cons.1 hz with rfl | hz
    · exact h.1
    · have := ih h2 z hz; omega
theorem rising_mk {x : Int} {t : List Int} (h : rising t = true) (hx : ∀ y ∈ t, x < y) : rising (x :: t) = true := by
  cases t with
  | nil => rfl
  | cons y t =>
    have h1 := hx y (by simp)
    simp only [rising, Bool.and_eq_true] at h ⊢
    exact ⟨by simpa using h1, h⟩

theorem placed_iff {dim : Int} {l : List Int} : checkP dim l = 0 ↔ meas dim = true ∧ rising l = true ∧ ∀ n ∈ l, 0 ≤ n ∧ n < dim := by
  unfold checkP placed
  by_cases h : (meas dim && rising l && l.all fun n => decide (0 ≤ n) && decide (n < dim)) = true
  · rw [if_pos h]
    simp only [Bool.and_eq_true, all_in] at h
    exact ⟨fun _ => ⟨h.1.1, h.1.2, h.2⟩, fun _ => rfl⟩
  · rw [if_neg h]
    simp only [Bool.and_eq_true, all_in] at h
    exact ⟨fun h' => by omega, fun h' => absurd ⟨⟨h'.1, h'.2.1⟩, h'.2.2⟩ h⟩

/-- Places that rise within so many are no more. -/
theorem rising_len {lo hi : Int} : ∀ {l : List Int}, rising l = true → (∀ n ∈ l, lo ≤ n ∧ n < hi) → (l.length : Int) ≤ hi - lo ∨ l = []
  | [], _, _ => .inr rfl
  | x :: t, hr, h => by
    left
    have hx := h x (by simp)
    rcases rising_len (lo := x + 1) (hi := hi) (rising_tail hr) (fun n hn => ⟨by have := rising_cons hr n hn; omega, (h n (by simp [hn])).2⟩) with h1 | rfl
    · simp only [List.length_cons]; push_cast; omega
    · simp only [List.length_cons, List.length_nil]; omega

theorem cut_to {α : Type} (l : List α) (b : Int) : cut' l none (some b) = l.take b.toNat := by simp [cut']
set_option linter.unusedSimpArgs false
set_option maxRecDepth 100000

theorem rising_iff : ∀ {l : List Int}, rising l = true ↔ l.Pairwise (· < ·)
  | [] => by simp [rising]
  | x :: t => by
    rw [List.pairwise_cons, ← rising_iff]
    exact ⟨fun h => ⟨rising_cons h, rising_tail h⟩, fun h => rising_mk h.2 h.1⟩
theorem rising_ext : ∀ {a b : List Int}, rising a = true → rising b = true → (∀ n, n ∈ a ↔ n ∈ b) → a = b
  | [], [], _, _, _ => rfl
  | [], y :: b, _, _, h => absurd ((h y).2 (by simp)) (by simp)
  | x :: a, [], _, _, h => absurd ((h x).1 (by simp)) (by simp)
  | x :: a, y :: b, ha, hb, h => by
    have hx := rising_cons ha
    have hy := rising_cons hb
    have e : x = y := by
      have h1 := (h x).1 (by simp)
      have h2 := (h y).2 (by simp)
      rcases List.mem_cons.1 h1 with h1 | h1
      · exact h1
      · rcases List.mem_cons.1 h2 with h2 | h2
        · exact h2.symm
        · have := hx y h2; have := hy x h1; omega
    subst e
    rw [rising_ext (rising_tail ha) (rising_tail hb) fun n => ?_]
    constructor
    · intro hn
      rcases List.mem_cons.1 ((h n).1 (List.mem_cons_of_mem _ hn)) with rfl | h1
      · exact absurd (hx _ hn) (by omega)
      · exact h1
    · intro hn
      rcases List.mem_cons.1 ((h n).2 (List.mem_cons_of_mem _ hn)) with rfl | h1
      · exact absurd (hy _ hn) (by omega)
      · exact h1
end Go.Proofs.Ytelobmiooldoaaa.Abs
