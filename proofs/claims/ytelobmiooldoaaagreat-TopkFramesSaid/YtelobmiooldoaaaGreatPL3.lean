/- Plain facts on codes of numbers. Conditions: none. -/
import Derived.Test.YtelobmiooldoaaaGreatPB
import Derived.Test.YtelobmiooldoaaaGreatGM
namespace Go.Proofs.YtelobmiooldoaaaGreat.Abs
open Go Go.RowKit Go.IntWalk
set_option linter.unusedVariables false
set_option maxRecDepth 100000

/-- Does a list rise? -/
def rising : List Int → Bool
  | [] => true
  | x :: t => (match t with
    | [] => true
    | y :: _ => decide (x < y)) && rising t

theorem rises_l0 (l : List Int) (hl : l.length ≤ 4611686018427387904) : ∀ (t : List Int) (x : Int) (k : Nat), l.drop k = x :: t → M_index_rises_l0 l ((k + 1 : Nat) : Int) = some (if rising (x :: t) then .inr () else .inl false)
  | [], x, k, h => by
    have h1 := drop_at h
    rw [M_index_rises_l0, if_neg (drop_end h1.2.2)]
    simp [rising]
  | y :: t, x, k, h => by
    have h1 := drop_at h
    have h2 := drop_at h1.2.2
    have e1 : IntKind.i64.wrap (((k + 1 : Nat) : Int) - 1) = (k : Int) := by rw [i64_in _ (by omega)]; omega
    rw [M_index_rises_l0, if_pos h2.1, e1, if_pos (by omega), if_pos (by omega), h1.2.1, h2.2.1, i64_s (by omega), rises_l0 l hl t y (k + 1) h1.2.2]
    by_cases hxy : x < y
    · rw [if_neg (by omega)]; simp [rising, hxy]
    · rw [if_pos (by omega)]; simp [rising, hxy]

theorem rises_eq (l : List Int) (hl : l.length ≤ 4611686018427387904) : M_index_rises l = some (rising l) := by
  cases l with
  | nil => rw [M_index_rises, M_index_rises_l0]; simp [rising]
  | cons x t =>
    have := rises_l0 (x :: t) hl t x 0 rfl
    rw [M_index_rises, show (1 : Int) = ((0 + 1 : Nat) : Int) from rfl, this]
    cases rising (x :: t) <;> rfl

/-- May a dimension be? -/
def meas (dim : Int) : Bool := decide (0 < dim) && decide (dim ≤ 4096)
/-- Places that may be: they rise, and lie within. -/
def placed (dim : Int) (l : List Int) : Bool := meas dim && rising l && l.all fun n => decide (0 ≤ n) && decide (n < dim)
def checkP (dim : Int) (l : List Int) : Int := if placed dim l then 0 else 1

theorem rising_all {lo hi : Int} : ∀ {l : List Int}, rising l = true → (∀ x, l.head? = some x → lo ≤ x) → (∀ x, l.getLast? = some x → x < hi) → ∀ n ∈ l, lo ≤ n ∧ n < hi
  | [], _, _, _, n, h => by simp at h
  | [x], _, h1, h2, n, h => by
    simp only [List.mem_singleton] at h; subst h
    exact ⟨h1 _ rfl, h2 _ rfl⟩
  | x :: y :: t, hr, h1, h2, n, h => by
    simp only [rising, Bool.and_eq_true, decide_eq_true_eq] at hr
    have hx := h1 x rfl
    have ih := rising_all (lo := lo) (hi := hi) (l := y :: t) (by simpa only [rising, Bool.and_eq_true] using hr.2) (fun z hz => by
      simp only [List.head?_cons, Option.some.injEq] at hz; subst hz; omega) (fun z hz => h2 z (by rw [List.getLast?_cons_cons]; exact hz))
    rcases List.mem_cons.1 h with rfl | h
    · exact ⟨hx, by have := (ih y (by simp)).2; omega⟩
    · exact ih n h

theorem all_in {dim : Int} {l : List Int} : (l.all fun n => decide (0 ≤ n) && decide (n < dim)) = true ↔ ∀ n ∈ l, 0 ≤ n ∧ n < dim := by
  simp [List.all_eq_true]

theorem measure_eq (dim : Int) : M_index_measure dim = some (meas dim) := by
  rw [M_index_measure, andB]
  simp [meas]

theorem Check_eq (dim : Int) (l : List Int) (hl : l.length ≤ 4611686018427387904) : M_index_Check dim l = some (checkP dim l) := by
  rw [M_index_Check, measure_eq, bindS, rises_eq l hl, bindS, orB]
  cases hm : meas dim with
  | false => simp [checkP, placed, hm]
  | true =>
    cases hr : rising l with
    | false => simp [checkP, placed, hr]
    | true =>
      rw [if_neg (by simp)]
      cases l with
      | nil => simp [checkP, placed, hm, hr]
      | cons x t =>
        have e1 : IntKind.i64.wrap ((((x :: t).length : Nat) : Int) - 1) = ((t.length : Nat) : Int) := by rw [i64_in _ (by simp at hl ⊢; omega)]; simp
        have e2 : at' (x :: t) ((t.length : Nat) : Int) = (x :: t).getLast (by simp) := by
          rw [at'_nat, List.getLast_eq_getElem]; simp
        rw [if_pos (by simp <;> omega), if_pos (by simp <;> omega), drop_at0]
        by_cases h0 : x < 0
        · rw [if_pos h0, checkP, if_neg]
          intro hp
          simp only [placed, Bool.and_eq_true, all_in] at hp
          have := (hp.2 x (by simp)).1
          omega
        · rw [if_neg h0, e1, if_pos (by simp <;> omega), e2]
          by_cases h1 : (x :: t).getLast (by simp) ≥ dim
          · rw [if_pos h1, checkP, if_neg]
            intro hp
            simp only [placed, Bool.and_eq_true, all_in] at hp
            have := (hp.2 _ (List.getLast_mem (by simp : x :: t ≠ []))).2
            omega
          · rw [if_neg h1, checkP, if_pos]
            simp only [placed, hm, hr, Bool.and_eq_true, all_in, true_and]
            exact rising_all hr (fun z hz => by simp only [List.head?_cons, Option.some.injEq] at hz; omega) (fun z hz => by
              rw [List.getLast?_eq_some_getLast (by simp), Option.some.injEq] at hz; omega)

/-- A number's code: seven bits a byte. -/
def lebP (n : Int) : List Int := if 127 < n then bOr .u8 (IntKind.u8.wrap n) 128 :: lebP (sShr .u64 n 7) else [IntKind.u8.wrap n]
  termination_by n.toNat
  decreasing_by
  simp only [sShr]
  have : min (7 : Int).toNat IntKind.u64.bits = 7 := by decide
  rw [this, Int.fdiv_eq_ediv_of_nonneg _ (by decide)]
  omega

theorem shr7 (n : Int) : sShr .u64 n 7 = n / 128 := by
  simp only [sShr]
  have : min (7 : Int).toNat IntKind.u64.bits = 7 := by decide
  rw [this, Int.fdiv_eq_ediv_of_nonneg _ (by decide)]; rfl

theorem lebP_le (n : Int) (h : n ≤ 18446744073709551615) : (lebP n).length ≤ 10 := by
  suffices ∀ (k : Nat) (n : Int), n < 128 ^ (k + 1) → (lebP n).length ≤ k + 1 from this 9 n (by omega)
  intro k
  induction k with
  | zero => intro n h; rw [lebP, if_neg (by omega)]; simp
  | succ k ih =>
    intro n h
    rw [lebP]
    split
    · have := ih (sShr .u64 n 7) (by
        rw [shr7]
        have e : (128 : Int) ^ (k + 1 + 1) = 128 * 128 ^ (k + 1) := by rw [Int.pow_succ, Int.mul_comm]
        rw [e] at h
        omega)
      simpa using this
    · simp

theorem leb_put_l0 (b : List Int) (n : Int) (hb : b.length + (lebP n).length ≤ 140737488355328) : ∃ c m, M_leb_put_l0 b n = some (c, m) ∧ c ++ [IntKind.u8.wrap m] = b ++ lebP n := by
  suffices ∀ (k : Nat) (b : List Int) (n : Int), n.toNat ≤ k → b.length + (lebP n).length ≤ 140737488355328 → ∃ c m, M_leb_put_l0 b n = some (c, m) ∧ c ++ [IntKind.u8.wrap m] = b ++ lebP n from this _ b n (Nat.le_refl _) hb
  clear hb n b
  intro k
  induction k with
  | zero =>
    intro b n hn hb
    rw [M_leb_put_l0, if_neg (by omega), lebP, if_neg (by omega)]
    exact ⟨b, n, rfl, rfl⟩
  | succ k ih =>
    intro b n hn hb
    rw [M_leb_put_l0]
    by_cases h : 127 < n
    · rw [lebP, if_pos h] at hb
      simp only [List.length_cons] at hb
      rw [if_pos h, if_pos (room1 (by simp; omega))]
      obtain ⟨c, m, h1, h2⟩ := ih (b ++ [bOr .u8 (IntKind.u8.wrap n) 128]) (sShr .u64 n 7) (by rw [shr7]; omega) (by simp; omega)
      refine ⟨c, m, h1, ?_⟩
      rw [h2]
      conv => rhs; rw [lebP, if_pos h]
      simp
    · rw [if_neg h, lebP, if_neg h]
      exact ⟨b, n, rfl, rfl⟩

theorem leb_put_eq (b : List Int) (n : Int) (hb : b.length + (lebP n).length ≤ 140737488355328) : M_leb_put b n = some (b ++ lebP n) := by
  obtain ⟨c, m, h1, h2⟩ := leb_put_l0 b n hb
  have := congrArg List.length h2
  simp only [List.length_append] at this
  rw [M_leb_put, h1, bindS, if_pos (room1 (by simp only [List.length_append] at this ⊢; omega)), h2]

theorem clone_eq (b : List Int) (hb : b.length ≤ 140737488355328) : M_slices_Clone_byte_byte b = some b := by
  rw [M_slices_Clone_byte_byte]
  simp only [List.nil_append]
  rw [if_pos (room1 hb)]

theorem leb_Put_l0 (ns : List Int) (hn : ns.length ≤ 4611686018427387904) : ∀ (t : List Int) (k : Nat) (b : List Int), ns.drop k = t → b.length + (t.flatMap lebP).length ≤ 140737488355328 → M_leb_Put_l0 ns (k : Int) b = some (b ++ t.flatMap lebP)
  | [], k, b, h, hb => by
    rw [M_leb_Put_l0, if_neg (drop_end h)]; simp
  | x :: t, k, b, h, hb => by
    have h1 := drop_at h
    simp only [List.flatMap_cons, List.length_append] at hb
    rw [M_leb_Put_l0, if_pos h1.1, if_pos (by omega), h1.2.1, leb_put_eq b x (by omega), bindS, i64_s (by omega), leb_Put_l0 ns hn t (k + 1) _ h1.2.2 (by simp only [List.length_append]; omega)]
    simp

theorem leb_Put_eq (b ns : List Int) (hn : ns.length ≤ 4611686018427387904) (hb : b.length + (ns.flatMap lebP).length ≤ 140737488355328) : M_leb_Put b ns = some (b ++ ns.flatMap lebP) := by
  have h1 := leb_Put_l0 ns hn ns 0 b rfl hb
  rw [show ((0 : Nat) : Int) = 0 from rfl] at h1
  rw [M_leb_Put, clone_eq b (by omega), bindS, h1, bindS]

/-- How far each place is from the one ahead. -/
def gaps (last : Int) : List Int → List Int
  | [] => []
  | n :: r => IntKind.u64.wrap (IntKind.i64.wrap (IntKind.i64.wrap (n - last) - 1)) :: gaps n r

theorem gaps_length : ∀ (last : Int) (l : List Int), (gaps last l).length = l.length
  | _, [] => rfl
  | last, n :: r => by simp [gaps, gaps_length n r]

theorem flat_lebP_le : ∀ (l : List Int), (∀ n ∈ l, n ≤ 18446744073709551615) → (l.flatMap lebP).length ≤ 10 * l.length
  | [], _ => by simp
  | n :: l, h => by
    have h1 := lebP_le n (h n (by simp))
    have h2 := flat_lebP_le l fun m hm => h m (by simp [hm])
    simp only [List.flatMap_cons, List.length_append, List.length_cons]
    omega

theorem gaps_u64 : ∀ (last : Int) (l : List Int), ∀ n ∈ gaps last l, 0 ≤ n ∧ n ≤ 18446744073709551615
  | _, [], n, h => by simp [gaps] at h
  | last, m :: r, n, h => by
    simp only [gaps, List.mem_cons] at h
    rcases h with rfl | h
    · exact u64_ge _
    · exact gaps_u64 m r n h

/-- What index.Put writes. -/
def putB (dim : Int) (l : List Int) : List Int := if checkP dim l = 0 then (IntKind.u64.wrap l.length :: gaps (-1) l).flatMap lebP else []

theorem Put_l0 (l : List Int) (hl : l.length ≤ 1099511627776) : ∀ (t : List Int) (k : Nat) (last : Int) (b : List Int), l.drop k = t → b.length + t.length ≤ 1099511627777 → M_index_Put_l0 l (k : Int) last b = some (b ++ gaps last t)
  | [], k, last, b, h, hb => by
    rw [M_index_Put_l0, if_neg (drop_end h)]; simp [gaps]
  | x :: t, k, last, b, h, hb => by
    have h1 := drop_at h
    simp only [List.length_cons] at hb
    rw [M_index_Put_l0, if_pos h1.1, if_pos (by omega), if_pos (room8 (by simp; omega)), bindS, i64_s (by omega), h1.2.1, Put_l0 l hl t (k + 1) x _ h1.2.2 (by simp; omega)]
    simp [gaps]

theorem Put_eq (dim : Int) (l : List Int) (hl : l.length ≤ 1099511627776) : M_index_Put dim l = some (putB dim l, checkP dim l) := by
  rw [M_index_Put, Check_eq dim l (by omega), bindS]
  by_cases h : checkP dim l = 0
  · have e1 : IntKind.i64.wrap ((l.length : Int) + 1) = l.length + 1 := i64_in _ (by omega)
    have h1 := Put_l0 l hl l 0 (-1) [IntKind.u64.wrap (l.length : Int)] rfl (by simp; omega)
    rw [show ((0 : Nat) : Int) = 0 from rfl] at h1
    rw [if_neg (by simp [h]), e1, if_pos (by omega), bindS]
    simp only [Int.toNat_zero, List.replicate_zero, List.nil_append]
    rw [if_pos (room8 (by simp)), bindS, h1, bindS]
    have h2 := flat_lebP_le (IntKind.u64.wrap l.length :: gaps (-1) l) (by
      intro n hn
      rcases List.mem_cons.1 hn with rfl | hn
      · exact (u64_ge _).2
      · exact (gaps_u64 _ _ n hn).2)
    simp only [List.length_cons, gaps_length] at h2
    rw [List.cons_append, List.nil_append, leb_Put_eq [] _ (by simp [gaps_length]; omega) (by simp only [List.length_nil]; omega), bindS, putB, if_pos h, h]
    simp
  · rw [if_pos h, putB, if_neg h]

def U8s (b : List Int) : Prop := ∀ x ∈ b, 0 ≤ x ∧ x ≤ 255

theorem and127 {x : Int} (h0 : 0 ≤ x) (h1 : x ≤ 255) : bAnd .u8 x 127 = x % 128 := by
  have h : ∀ i : Fin 256, bAnd .u8 ((i.val : Nat) : Int) 127 = ((i.val : Nat) : Int) % 128 := by decide +kernel
  have := h ⟨x.toNat, by omega⟩
  simpa [Int.toNat_of_nonneg h0] using this

/-- A code read on, from a place and what was read. -/
def getGo (at0 : Int) : List Int → Nat → Int → Int × Int × Int
  | [], _, _ => (0, 0, 5)
  | x :: c, k, n =>
    if (k = 9 ∧ 1 < x) ∨ (x = 0 ∧ 0 < k) then (0, 0, 6)
    else if x < 128 then (bOr .u64 n (sShl .u64 (x % 128) (7 * (k : Int))), IntKind.i64.wrap (at0 + k) + 1, 0)
    else getGo at0 c (k + 1) (bOr .u64 n (sShl .u64 (x % 128) (7 * (k : Int))))

/-- A code read. -/
def getP (b : List Int) (at0 : Int) : Int × Int × Int := if at0 < 0 then (0, 0, 1) else getGo at0 (b.drop at0.toNat) 0 0

theorem leb_Get_l0 (at0 : Int) (y : List Int) (h0 : 0 ≤ at0) (ha : at0 + y.length ≤ 9223372036854775806 ∨ y = []) (hu : U8s y) : ∀ (c : List Int) (k : Nat) (n : Int), k ≤ 9 → y.drop k = c →
    M_leb_Get_l0 at0 y (k : Int) n = some (if getGo at0 c k n = (0, 0, 5) ∧ (∀ x ∈ c, 128 ≤ x) then .inr () else .inl (getGo at0 c k n)) := by
  intro c
  induction c with
  | nil =>
    intro k n hk h
    rw [M_leb_Get_l0, if_neg (drop_end h)]; simp [getGo]
  | cons x c ih =>
    intro k n hk h
    have h1 := drop_at h
    have hx : 0 ≤ x ∧ x ≤ 255 := hu x (List.mem_of_mem_drop (by rw [h]; simp))
    have ha' : at0 + y.length ≤ 9223372036854775806 := by
      rcases ha with ha | rfl
      · exact ha
      · simp at h
    rw [M_leb_Get_l0, if_pos h1.1, if_pos (by omega), h1.2.1]
    simp only [orB, andB]
    have e1 : IntKind.i64.wrap (7 * (k : Int)) = 7 * k := i64_in _ (by omega)
    have e2 : IntKind.i64.wrap (at0 + (k : Int)) = at0 + k := i64_in _ (by omega)
    have e3 : IntKind.u64.wrap (bAnd .u8 x 127) = x % 128 := by rw [and127 hx.1 hx.2, u64_in _ (by omega)]
    by_cases hb : (k = 9 ∧ 1 < x) ∨ (x = 0 ∧ 0 < k)
    · rw [if_pos (by simp; omega), getGo, if_pos hb]
      simp
    · rw [if_neg (by simp; omega), e1, if_pos (by omega), e3, bindS, getGo, if_neg hb]
      by_cases hx1 : x < 128
      · rw [if_pos hx1, if_pos hx1, e2]
        rw [i64_in (at0 + k + 1) (by omega), if_neg (by simp)]
      · rw [if_neg hx1, if_neg hx1, i64_s (by omega), ih (k + 1) _ (by omega) h1.2.2]
        simp only [List.mem_cons, forall_eq_or_imp, show 128 ≤ x by omega, true_and]

theorem cut_none {α : Type} (l : List α) (a : Int) (h : a ≤ l.length) : cut' l (some a) none = l.drop a.toNat := by
  simp [cut']

theorem leb_Get_eq (b : List Int) (at0 : Int) (hb : b.length ≤ 4611686018427387904) (hu : U8s b) (hat : at0 ≤ 9223372036854775807) : M_leb_Get b at0 = some (getP b at0) := by
  rw [M_leb_Get, getP]
  by_cases h0 : at0 < 0
  · rw [if_pos h0, if_pos h0]
  rw [if_neg h0, if_neg h0]
  have hmin : (if (b.length : Int) < at0 then (b.length : Int) else at0).toNat = min at0.toNat b.length := by
    split <;> omega
  have hd : cut' b (some (if (b.length : Int) < at0 then (b.length : Int) else at0)) none = b.drop at0.toNat := by
    rw [cut_none _ _ (by split <;> omega), hmin]
    rcases Nat.le_total at0.toNat b.length with h | h
    · rw [Nat.min_eq_left h]
    · rw [Nat.min_eq_right h, List.drop_eq_nil_of_le (Nat.le_refl _), List.drop_eq_nil_of_le h]
  rw [if_pos (by simp only [cutOk, Option.getD_some, Option.getD_none]; split <;> omega), hd, bindS]
  have hl := leb_Get_l0 at0 (b.drop at0.toNat) (by omega) (by
    rcases Nat.lt_or_ge at0.toNat b.length with h | h
    · left; simp only [List.length_drop]; omega
    · right; exact List.drop_eq_nil_of_le h) (fun x hx => hu x (List.mem_of_mem_drop hx)) (b.drop at0.toNat) 0 0 (by omega) rfl
  rw [show ((0 : Nat) : Int) = 0 from rfl] at hl
  rw [hl]
  by_cases hc : getGo at0 (b.drop at0.toNat) 0 0 = (0, 0, 5) ∧ ∀ x ∈ b.drop at0.toNat, 128 ≤ x
  · rw [if_pos hc, hc.1]; rfl
  · rw [if_neg hc]; rfl

theorem getGo_at (at0 : Int) (h0 : 0 ≤ at0) (B : Int) (hB : B ≤ 9223372036854775806) (hB0 : 0 ≤ B) : ∀ (c : List Int) (k : Nat) (n : Int), at0 + k + c.length ≤ B ∨ c = [] → 0 ≤ (getGo at0 c k n).2.1 ∧ (getGo at0 c k n).2.1 ≤ B
  | [], k, n, _ => by simp [getGo, hB0]
  | x :: c, k, n, h => by
    simp only [List.length_cons, reduceCtorEq, or_false] at h
    rw [getGo]
    split
    · simp [hB0]
    · split
      · simp only
        rw [i64_in _ (by omega)]; omega
      · exact getGo_at at0 h0 B hB hB0 c (k + 1) _ (.inl (by omega))

theorem getP_at (b : List Int) (at0 : Int) (hb : b.length ≤ 4611686018427387904) : 0 ≤ (getP b at0).2.1 ∧ (getP b at0).2.1 ≤ b.length := by
  unfold getP
  split
  · simp
  · rename_i h
    refine getGo_at at0 (by omega) b.length (by omega) (by omega) _ 0 0 ?_
    rcases Nat.lt_or_ge at0.toNat b.length with h1 | h1
    · left; simp only [List.length_drop]; omega
    · right; exact List.drop_eq_nil_of_le h1

theorem getGo_u64 (at0 : Int) : ∀ (c : List Int) (k : Nat) (n : Int), 0 ≤ (getGo at0 c k n).1 ∧ (getGo at0 c k n).1 ≤ 18446744073709551615
  | [], k, n => by simp [getGo]
  | x :: c, k, n => by
    rw [getGo]
    split
    · simp
    · split
      · exact u64_ge _
      · exact getGo_u64 at0 c (k + 1) _
theorem getP_u64 (b : List Int) (at0 : Int) : 0 ≤ (getP b at0).1 ∧ (getP b at0).1 ≤ 18446744073709551615 := by
  unfold getP
  split
  · simp
  · exact getGo_u64 _ _ _ _

/-- So many places read on: from where, behind which place, and those that were read. -/
def iget (dim : Int) (b : List Int) : Nat → Int → Int → List Int → List Int × Int × Int
  | 0, at0, _, acc => (acc, at0, 0)
  | m + 1, at0, last, acc =>
    if (getP b at0).2.2 ≠ 0 then ([], 0, (getP b at0).2.2)
    else if dim - 1 - last ≤ (getP b at0).1 then ([], 0, 6)
    else iget dim b m (getP b at0).2.1 (last + 1 + (getP b at0).1) (acc ++ [last + 1 + (getP b at0).1])

/-- What index.Get answers. -/
def igetP (dim : Int) (b : List Int) (at0 : Int) : List Int × Int × Int :=
  if meas dim = false then ([], 0, 1)
  else if (getP b at0).2.2 ≠ 0 then ([], 0, (getP b at0).2.2)
  else if dim < (getP b at0).1 then ([], 0, 6)
  else iget dim b (getP b at0).1.toNat (getP b at0).2.1 (-1) []

theorem iGet_l0 (dim : Int) (hd : dim ≤ 4096) (b : List Int) (hb : b.length ≤ 4611686018427387904) (hu : U8s b) (r2 : Int × Int × Int) (hr : r2.1 ≤ 4096) : ∀ (j i : Nat) (last : Int) (acc : List Int) (at0 : Int), (i : Int) + j = r2.1 → acc.length ≤ i → at0 ≤ 9223372036854775807 → -1 ≤ last → last < dim →
    ∃ p q, M_index_Get_l0 dim b r2 (i : Int) last acc 0 at0 = some ((iget dim b j at0 last acc).2.2, p, q) ∧ ((iget dim b j at0 last acc).2.2 = 0 → p = (iget dim b j at0 last acc).2.1 ∧ q = (iget dim b j at0 last acc).1) ∧ ((iget dim b j at0 last acc).2.2 ≠ 0 → iget dim b j at0 last acc = ([], 0, (iget dim b j at0 last acc).2.2)) := by
  intro j
  induction j with
  | zero =>
    intro i last acc at0 hi ha hat hl1 hl2
    rw [M_index_Get_l0, andB, if_neg (by simp; omega)]
    exact ⟨at0, acc, rfl, fun _ => ⟨rfl, rfl⟩, fun h => absurd rfl h⟩
  | succ j ih =>
    intro i last acc at0 hi ha hat hl1 hl2
    rw [M_index_Get_l0, andB, if_pos (by simp; omega), leb_Get_eq b at0 hb hu hat, bindS]
    by_cases he : (getP b at0).2.2 ≠ 0
    · rw [if_pos he]
      simp only [iget, if_pos he]
      exact ⟨_, _, rfl, fun h => absurd h he, fun _ => trivial⟩
    · have e1 : IntKind.u64.wrap (IntKind.i64.wrap (IntKind.i64.wrap (dim - 1) - last)) = dim - 1 - last := by
        rw [i64_in (dim - 1) (by omega), i64_in _ (by omega), u64_in _ (by omega)]
      rw [if_neg he, e1]
      have h1 := getP_u64 b at0
      have h2 := getP_at b at0 hb
      by_cases hf : dim - 1 - last ≤ (getP b at0).1
      · rw [if_pos hf]
        simp only [iget, if_neg he, if_pos hf]
        exact ⟨_, _, rfl, fun h => absurd h (by decide), fun _ => trivial⟩
      · have e2 : IntKind.i64.wrap (last + IntKind.i64.wrap (1 + IntKind.i64.wrap (getP b at0).1)) = last + 1 + (getP b at0).1 := by
          rw [i64_in (getP b at0).1 (by omega), i64_in (1 + (getP b at0).1) (by omega), i64_in _ (by omega)]; omega
        rw [if_neg hf, e2, bindS, if_pos (room8 (by simp; omega)), bindS, u64_s (by omega)]
        simp only [iget, if_neg he, if_neg hf]
        have he' : (getP b at0).2.2 = 0 := by simpa using he
        rw [he']
        exact ih (i + 1) _ _ _ (by omega) (by simp; omega) (by omega) (by omega) (by omega)

theorem iGet_eq (dim : Int) (b : List Int) (at0 : Int) (hb : b.length ≤ 4611686018427387904) (hu : U8s b) (hat : at0 ≤ 9223372036854775807) : M_index_Get dim b at0 = some (igetP dim b at0) := by
  rw [M_index_Get, measure_eq, bindS, igetP]
  cases hm : meas dim with
  | false => rfl
  | true =>
    have hm' := hm
    simp only [meas, Bool.and_eq_true, decide_eq_true_eq] at hm'
    rw [if_neg (by simp), if_neg (by simp), leb_Get_eq b at0 hb hu hat, bindS, andB, u64_in dim (by omega)]
    have h1 := getP_u64 b at0
    have h2 := getP_at b at0 hb
    by_cases he : (getP b at0).2.2 ≠ 0
    · rw [if_neg (by simp [he]), bindS, if_pos he, M_index_Get_l0, andB, if_neg (by simp [he]), bindS, if_pos he]
    · have he' : (getP b at0).2.2 = 0 := by simpa using he
      rw [if_neg he, he']
      by_cases hf : dim < (getP b at0).1
      · rw [if_pos (by simp; omega), bindS, if_pos hf, M_index_Get_l0, andB, if_neg (by simp), bindS, if_pos (by simp)]
      · rw [if_neg (by simp; omega), bindS, if_neg hf]
        obtain ⟨p, q, g1, g2, g3⟩ := iGet_l0 dim hm'.2 b hb hu (getP b at0) (by omega) (getP b at0).1.toNat 0 (-1) [] (getP b at0).2.1 (by omega) (by simp) (by omega) (by omega) (by omega)
        rw [show ((0 : Nat) : Int) = 0 from rfl] at g1
        rw [g1, bindS]
        by_cases hz : (iget dim b (getP b at0).1.toNat (getP b at0).2.1 (-1) []).2.2 = 0
        · rw [if_neg (by simpa using hz)]
          obtain ⟨rfl, rfl⟩ := g2 hz
          generalize iget dim b (getP b at0).1.toNat (getP b at0).2.1 (-1) [] = R at hz
          obtain ⟨x, y, z⟩ := R
          simp only at hz; subst hz; rfl
        · rw [if_pos hz]
          exact congrArg some (g3 hz).symm

theorem lebP_small {n : Int} (h : ¬ 127 < n) : lebP n = [IntKind.u8.wrap n] := by rw [lebP, if_neg h]

theorem lebP_u8 : ∀ (k : Nat) (n : Int), n.toNat ≤ k → U8s (lebP n) := by
  intro k
  induction k with
  | zero =>
    intro n h x hx
    rw [lebP_small (by omega), List.mem_singleton] at hx; subst hx
    exact u8_ge _
  | succ k ih =>
    intro n h x hx
    rw [lebP] at hx
    split at hx
    · rcases List.mem_cons.1 hx with rfl | hx
      · exact u8_ge _
      · exact ih _ (by rw [shr7]; omega) x hx
    · simp only [List.mem_singleton] at hx; subst hx
      exact u8_ge _

theorem putB_u8 (dim : Int) (l : List Int) : U8s (putB dim l) := by
  unfold putB
  split
  · intro x hx
    obtain ⟨n, _, hn⟩ := List.mem_flatMap.1 hx
    exact lebP_u8 _ n (Nat.le_refl _) x hn
  · intro x hx; simp at hx

theorem bOr_u64 {x y : Int} (hx : 0 ≤ x ∧ x ≤ 18446744073709551615) (hy : 0 ≤ y ∧ y ≤ 18446744073709551615) : bOr .u64 x y = ((x.toNat ||| y.toNat : Nat) : Int) := by
  unfold bOr
  have e : IntKind.u64.bits = 64 := rfl
  rw [e, BitVec.toNat_or, BitVec.toNat_ofInt, BitVec.toNat_ofInt]
  have e1 : (x % ((2 ^ 64 : Nat) : Int)).toNat = x.toNat := by omega
  have e2 : (y % ((2 ^ 64 : Nat) : Int)).toNat = y.toNat := by omega
  rw [e1, e2, u64_in _ ?_]
  have := @Nat.or_lt_two_pow x.toNat y.toNat 64 (by omega) (by omega)
  omega

/-- Seven bits more. -/
theorem more7 {a x : Int} {k : Nat} (hk : k ≤ 9) (ha : 0 ≤ a) (ha1 : a < 128 ^ k) (hx : 0 ≤ x) (hx1 : x < 128) (h : x * 128 ^ k < 18446744073709551616) : bOr .u64 a (sShl .u64 x (7 * (k : Int))) = a + x * 128 ^ k := by
  have e7 : (128 : Int) ^ k = 2 ^ (7 * k) := by rw [Int.pow_mul]; rfl
  have hm : min (7 * (k : Int)).toNat IntKind.u64.bits = 7 * k := by
    have : IntKind.u64.bits = 64 := rfl
    rw [this]; omega
  have hp : (0 : Int) < 2 ^ (7 * k) := Int.pow_pos (by decide)
  rw [e7] at ha1 h ⊢
  have hpos : 0 ≤ x * 2 ^ (7 * k) := Int.mul_nonneg hx (by omega)
  have h63 : (2 : Int) ^ (7 * k) ≤ 2 ^ 63 := by
    have : (2 : Nat) ^ (7 * k) ≤ 2 ^ 63 := Nat.pow_le_pow_right (by decide) (by omega)
    exact_mod_cast this
  have es : sShl .u64 x (7 * (k : Int)) = x * 2 ^ (7 * k) := by
    unfold sShl
    rw [hm, u64_in _ (by omega)]
  rw [es, bOr_u64 (by omega) (by omega)]
  have e1 : (x * 2 ^ (7 * k)).toNat = 2 ^ (7 * k) * x.toNat := by
    have : x * 2 ^ (7 * k) = ((2 ^ (7 * k) * x.toNat : Nat) : Int) := by
      push_cast
      rw [Int.toNat_of_nonneg hx, Int.mul_comm]
    rw [this, Int.toNat_natCast]
  have e2 : a.toNat < 2 ^ (7 * k) := by
    have : ((2 ^ (7 * k) : Nat) : Int) = 2 ^ (7 * k) := by push_cast; rfl
    omega
  rw [e1, Nat.or_comm, ← Nat.two_pow_add_eq_or_of_lt e2]
  push_cast
  rw [Int.toNat_of_nonneg hx, Int.toNat_of_nonneg ha, Int.mul_comm x]
  omega

theorem first_byte {n : Int} (h0 : 0 ≤ n) : bOr .u8 (IntKind.u8.wrap n) 128 = n % 128 + 128 := by
  rw [IntKind.wrap_u8 n]
  have h : ∀ i : Fin 256, bOr .u8 ((i.val : Nat) : Int) 128 = ((i.val : Nat) : Int) % 128 + 128 := by decide +kernel
  have := h ⟨(n % 256).toNat, by omega⟩
  simp only [Int.toNat_of_nonneg (show 0 ≤ n % 256 by omega)] at this
  rw [this]; omega

theorem pow_le9 {k : Nat} (hk : k ≤ 9) : (128 : Int) ^ k ≤ 9223372036854775808 := by
  have : ∀ j : Fin 10, (128 : Int) ^ (j.val) ≤ 9223372036854775808 := by decide +kernel
  exact this ⟨k, by omega⟩
theorem pow_le8 {k : Nat} (hk : k ≤ 8) : (128 : Int) ^ k ≤ 72057594037927936 := by
  have : ∀ j : Fin 9, (128 : Int) ^ (j.val) ≤ 72057594037927936 := by decide +kernel
  exact this ⟨k, by omega⟩

/-- What was written is read. -/
theorem getGo_put (at0 : Int) (B : List Int) : ∀ (m : Nat) (n : Int) (k : Nat) (acc : Int), n.toNat ≤ m → k ≤ 9 → 0 ≤ n → 0 ≤ acc → acc < 128 ^ k → n * 128 ^ k < 18446744073709551616 → (1 ≤ n ∨ k = 0) →
    0 ≤ at0 → at0 + k + (lebP n).length ≤ 9223372036854775807 → getGo at0 (lebP n ++ B) k acc = (acc + n * 128 ^ k, at0 + k + (lebP n).length, 0) := by
  intro m
  induction m with
  | zero =>
    intro n k acc hn hk h0 ha ha1 hlt hor hat hl
    have : n = 0 := by omega
    subst this
    have hk0 : k = 0 := by omega
    subst hk0
    rw [lebP_small (by omega)] at hl ⊢
    have e : IntKind.u8.wrap 0 = 0 := rfl
    simp only [e, List.cons_append, List.nil_append, getGo]
    rw [if_neg (by omega), if_pos (by omega)]
    have := more7 (k := 0) (x := 0) (by omega) ha ha1 (by omega) (by omega) (by omega)
    simp only [List.length_cons, List.length_nil] at hl
    rw [show (0 : Int) % 128 = 0 by decide, this, i64_in _ (by omega)]
    simp only [List.length_cons, List.length_nil]
    congr 1
  | succ m ih =>
    intro n k acc hn hk h0 ha ha1 hlt hor hat hl
    have hp9 := pow_le9 hk
    have hpp : (1 : Int) ≤ 128 ^ k := by have : (0 : Int) < 128 ^ k := Int.pow_pos (by decide); omega
    by_cases h : 127 < n
    · have hk8 : k ≤ 8 := by
        rcases Nat.lt_or_ge k 9 with h9 | h9
        · omega
        · have : k = 9 := by omega
          subst this
          omega
      have e128 : (128 : Int) ^ (k + 1) = 128 ^ k * 128 := Int.pow_succ _ _
      have hq : 0 ≤ n % 128 ∧ n % 128 < 128 := by omega
      have hd : n = 128 * (n / 128) + n % 128 := by omega
      have hmul : n * 128 ^ k = n / 128 * (128 ^ k * 128) + n % 128 * 128 ^ k := by
        conv => lhs; rw [hd]
        rw [Int.add_mul, Int.mul_comm 128 (n / 128), Int.mul_assoc, Int.mul_comm 128 (128 ^ k)]
      have hz1 : 0 ≤ n / 128 * (128 ^ k * 128) := Int.mul_nonneg (by omega) (by omega)
      have hz2 : 0 ≤ n % 128 * 128 ^ k := Int.mul_nonneg (by omega) (by omega)
      have hz3 : n % 128 * 128 ^ k ≤ 127 * 128 ^ k := Int.mul_le_mul_of_nonneg_right (by omega) (by omega)
      rw [lebP, if_pos h, shr7] at hl ⊢
      simp only [List.cons_append, List.length_cons] at hl ⊢
      rw [getGo, first_byte h0, if_neg (by omega), if_neg (by omega), show (n % 128 + 128) % 128 = n % 128 by omega, more7 hk ha ha1 hq.1 hq.2 (by omega)]
      rw [ih (n / 128) (k + 1) _ (by omega) (by omega) (by omega) (by omega) (by rw [e128]; omega) (by rw [e128]; omega) (.inl (by omega)) hat (by push_cast; omega)]
      refine Prod.ext ?_ (Prod.ext ?_ rfl)
      · simp only; rw [e128]; omega
      · simp only; push_cast; omega
    · have e : IntKind.u8.wrap n = n := u8_in _ (by omega)
      rw [lebP_small h] at hl ⊢
      simp only [e, List.cons_append, List.nil_append, getGo]
      have hz : ¬ (k = 9 ∧ 1 < n) := by
        rintro ⟨rfl, h1⟩
        omega
      rw [if_neg (by omega), if_pos (by omega), show n % 128 = n by omega, more7 hk ha ha1 h0 (by omega) hlt]
      simp only [List.length_cons, List.length_nil] at hl ⊢
      rw [i64_in _ (by omega)]
      refine Prod.ext rfl (Prod.ext ?_ rfl)
      simp only; omega

theorem getP_put (A B : List Int) (n : Int) (hn : 0 ≤ n ∧ n ≤ 18446744073709551615) (hA : A.length ≤ 4611686018427387904) : getP (A ++ (lebP n ++ B)) A.length = (n, (A.length : Int) + (lebP n).length, 0) := by
  have h1 := lebP_le n hn.2
  rw [getP, if_neg (by omega), Int.toNat_natCast, List.drop_left, getGo_put A.length B n.toNat n 0 0 (Nat.le_refl _) (by omega) hn.1 (by omega) (by simp) (by simp; omega) (.inr rfl) (by omega) (by push_cast; omega)]
  refine Prod.ext ?_ (Prod.ext ?_ rfl)
  · simp
  · simp

/-- What is read was written so. -/
theorem getGo_back (at0 : Int) (h0 : 0 ≤ at0) : ∀ (c : List Int) (k : Nat) (acc v p : Int), U8s c → k ≤ 9 → 0 ≤ acc → acc < 128 ^ k → at0 + k + c.length ≤ 9223372036854775806 → getGo at0 c k acc = (v, p, 0) →
    ∃ n B, c = lebP n ++ B ∧ v = acc + n * 128 ^ k ∧ p = at0 + k + (lebP n).length ∧ 0 ≤ n ∧ n * 128 ^ k < 18446744073709551616 ∧ (1 ≤ n ∨ k = 0)
  | [], k, acc, v, p, hu, hk, ha, ha1, hl, h => by simp [getGo] at h
  | x :: c, k, acc, v, p, hu, hk, ha, ha1, hl, h => by
    have hx := hu x (by simp)
    have hp9 := pow_le9 hk
    have hpp : (1 : Int) ≤ 128 ^ k := by have : (0 : Int) < 128 ^ k := Int.pow_pos (by decide); omega
    simp only [List.length_cons] at hl
    rw [getGo] at h
    split at h
    · simp at h
    · rename_i hne
      have hsm : x < 128 → x * 128 ^ k < 18446744073709551616 := by
        intro hx1
        rcases Nat.lt_or_ge k 9 with h9 | h9
        · have h8 := pow_le8 (k := k) (by omega)
          have : x * 128 ^ k ≤ 127 * 128 ^ k := Int.mul_le_mul_of_nonneg_right (by omega) (by omega)
          omega
        · have : k = 9 := by omega
          subst this
          omega
      split at h
      · rename_i hx1
        simp only [Prod.mk.injEq, and_true] at h
        rw [show x % 128 = x by omega, more7 hk ha ha1 hx.1 hx1 (hsm hx1), i64_in _ (by omega)] at h
        refine ⟨x, c, ?_, h.1.symm, ?_, hx.1, hsm hx1, by omega⟩
        · rw [lebP_small (by omega), u8_in _ (by omega)]; rfl
        · rw [lebP_small (by omega)]
          simp only [List.length_cons, List.length_nil]; omega
      · rename_i hx1
        have hk8 : k ≤ 8 := by omega
        have e128 : (128 : Int) ^ (k + 1) = 128 ^ k * 128 := Int.pow_succ _ _
        have hz2 : 0 ≤ x % 128 * 128 ^ k := Int.mul_nonneg (by omega) (by omega)
        have hz3 : x % 128 * 128 ^ k ≤ 127 * 128 ^ k := Int.mul_le_mul_of_nonneg_right (by omega) (by omega)
        have h8 := pow_le8 (k := k) (by omega)
        rw [more7 hk ha ha1 (by omega) (by omega) (by omega)] at h
        obtain ⟨n, B, g1, g2, g3, g4, g5, g6⟩ := getGo_back at0 h0 c (k + 1) _ v p (fun y hy => hu y (by simp [hy])) (by omega) (by omega) (by rw [e128]; omega) (by push_cast; omega) h
        have hn1 : 1 ≤ n := by omega
        rw [e128] at g2 g5
        have e3 : (128 * n + x % 128) * 128 ^ k = n * (128 ^ k * 128) + x % 128 * 128 ^ k := by
          rw [Int.add_mul, Int.mul_comm 128 n, Int.mul_assoc, Int.mul_comm 128 (128 ^ k)]
        have el : lebP (128 * n + x % 128) = x :: lebP n := by
          rw [lebP, if_pos (by omega), first_byte (by omega), shr7]
          congr 1
          · omega
          · congr 1; omega
        refine ⟨128 * n + x % 128, B, ?_, ?_, ?_, by omega, ?_, .inl (by omega)⟩
        · rw [el, g1]; rfl
        · rw [e3]; omega
        · rw [el, g3]; simp only [List.length_cons]; push_cast; omega
        · rw [e3]
          have : n * (128 ^ k * 128) + x % 128 * 128 ^ k < 18446744073709551616 := by
            have hq : (18446744073709551616 : Int) = 128 ^ k * (18446744073709551616 / 128 ^ k) := by
              have hdiv : ∀ j : Fin 9, (18446744073709551616 : Int) = 128 ^ (j.val) * (18446744073709551616 / 128 ^ (j.val)) := by decide +kernel
              exact hdiv ⟨k, by omega⟩
            have h7 : n * 128 + x % 128 < 18446744073709551616 / 128 ^ k := by
              have hk7 : ∃ q : Int, 18446744073709551616 / 128 ^ k = 128 * q + 0 ∨ 18446744073709551616 / 128 ^ k = 128 * q := ⟨18446744073709551616 / 128 ^ k / 128, by
                have : ∀ j : Fin 9, (18446744073709551616 : Int) / 128 ^ (j.val) = 128 * (18446744073709551616 / 128 ^ (j.val) / 128) := by decide +kernel
                exact .inr (this ⟨k, by omega⟩)⟩
              obtain ⟨q, hq'⟩ := hk7
              have hq2 : 18446744073709551616 / 128 ^ k = 128 * q := by omega
              rw [hq2] at hq ⊢
              have : n < q := by
                by_cases h : n < q
                · exact h
                · exfalso
                  have h2 : q * (128 ^ k * 128) ≤ n * (128 ^ k * 128) := Int.mul_le_mul_of_nonneg_right (by omega) (by omega)
                  have h3 : q * (128 ^ k * 128) = 128 ^ k * (128 * q) := by rw [Int.mul_comm q, Int.mul_assoc]
                  omega
              omega
            have h9 : (n * 128 + x % 128) * 128 ^ k < 18446744073709551616 / 128 ^ k * 128 ^ k := Int.mul_lt_mul_of_pos_right h7 (by omega)
            have h10 : (n * 128 + x % 128) * 128 ^ k = n * (128 ^ k * 128) + x % 128 * 128 ^ k := by rw [Int.add_mul, Int.mul_assoc, Int.mul_comm 128 (128 ^ k)]
            have h11 : 18446744073709551616 / 128 ^ k * 128 ^ k = (18446744073709551616 : Int) := by rw [Int.mul_comm]; exact hq.symm
            omega
          exact this

theorem getP_back (b : List Int) (at0 v p : Int) (hb : b.length ≤ 4611686018427387904) (hu : U8s b) (h : getP b at0 = (v, p, 0)) : 0 ≤ at0 ∧ at0 ≤ b.length ∧ 0 ≤ v ∧ v ≤ 18446744073709551615 ∧ p = at0 + (lebP v).length ∧ b.drop at0.toNat = lebP v ++ b.drop p.toNat := by
  unfold getP at h
  split at h
  · simp at h
  · rename_i h0
    have hin : at0 < b.length := by
      by_cases h1 : at0 < b.length
      · exact h1
      · rw [List.drop_eq_nil_of_le (by omega)] at h; simp [getGo] at h
    obtain ⟨n, B, g1, g2, g3, g4, g5, _⟩ := getGo_back at0 (by omega) _ 0 0 v p (fun y hy => hu y (List.mem_of_mem_drop hy)) (by omega) (by omega) (by simp) (by simp only [List.length_drop]; omega) h
    simp only [Int.pow_zero, Int.mul_one, Int.zero_add] at g2 g5
    subst g2
    refine ⟨by omega, by omega, g4, by omega, by rw [g3]; simp, ?_⟩
    have e : p.toNat = at0.toNat + (lebP v).length := by rw [g3]; push_cast; omega
    rw [e, ← List.drop_drop, g1, List.drop_left]

/-- The codes of places behind one. -/
def codes (last : Int) (t : List Int) : List Int := (gaps last t).flatMap lebP

theorem rising_tail {x : Int} {t : List Int} (h : rising (x :: t) = true) : rising t = true := by
  cases t with
  | nil => rfl
  | cons y t => simp only [rising, Bool.and_eq_true] at h ⊢; exact h.2
theorem rising_cons {x : Int} {t : List Int} (h : rising (x :: t) = true) : ∀ y ∈ t, x < y := by
  induction t generalizing x with
  | nil => simp
  | cons y t ih =>
    intro z hz
    simp only [rising, Bool.and_eq_true, decide_eq_true_eq] at h
    have h2 : rising (y :: t) = true := by simp only [rising, Bool.and_eq_true]; exact h.2
    rcases List.mem_cons.1 hz with rfl | hz
    · exact h.1
    · have := ih h2 z hz; omega
theorem rising_mk {x : Int} {t : List Int} (h : rising t = true) (hx : ∀ y ∈ t, x < y) : rising (x :: t) = true := by
  cases t with
  | nil => rfl
  | cons y t =>
    have h1 := hx y (by simp)
    simp only [rising, Bool.and_eq_true] at h ⊢
    exact ⟨by simpa using h1, h⟩

/-- What was written is read. -/
theorem iget_put (dim : Int) (hd : dim ≤ 4096) (B : List Int) : ∀ (t : List Int) (A : List Int) (last : Int) (acc : List Int), rising t = true → (∀ n ∈ t, last < n ∧ n < dim) → -1 ≤ last → A.length + (codes last t).length ≤ 4611686018427387904 →
    iget dim (A ++ (codes last t ++ B)) t.length A.length last acc = (acc ++ t, ((A.length + (codes last t).length : Nat) : Int), 0)
  | [], A, last, acc, hr, hn, hl, hA => by simp [iget, codes, gaps]
  | x :: t, A, last, acc, hr, hn, hl, hA => by
    have hx := hn x (by simp)
    have e : IntKind.u64.wrap (IntKind.i64.wrap (IntKind.i64.wrap (x - last) - 1)) = x - last - 1 := by
      rw [i64_in (x - last) (by omega), i64_in _ (by omega), u64_in _ (by omega)]
    have ec : codes last (x :: t) = lebP (x - last - 1) ++ codes x t := by simp [codes, gaps, e]
    rw [ec] at hA ⊢
    simp only [List.length_append] at hA
    have hg := getP_put A (codes x t ++ B) (x - last - 1) (by omega) (by omega)
    rw [List.append_assoc, List.length_cons, iget, hg]
    simp only
    rw [if_neg (by simp), if_neg (by omega), show last + 1 + (x - last - 1) = x by omega]
    have ih := iget_put dim hd B t (A ++ lebP (x - last - 1)) x (acc ++ [x]) (rising_tail hr) (fun n hm => ⟨rising_cons hr n hm, (hn n (by simp [hm])).2⟩) (by omega) (by simp only [List.length_append]; omega)
    simp only [List.append_assoc, List.length_append] at ih
    rw [show ((A.length : Int) + ((lebP (x - last - 1)).length : Nat)) = (((A.length + (lebP (x - last - 1)).length : Nat)) : Int) by push_cast; rfl, ih]
    simp only [List.length_append, List.cons_append, List.nil_append]
    refine Prod.ext rfl (Prod.ext ?_ rfl)
    simp only; push_cast; omega

theorem placed_iff {dim : Int} {l : List Int} : checkP dim l = 0 ↔ meas dim = true ∧ rising l = true ∧ ∀ n ∈ l, 0 ≤ n ∧ n < dim := by
  unfold checkP placed
  by_cases h : (meas dim && rising l && l.all fun n => decide (0 ≤ n) && decide (n < dim)) = true
  · rw [if_pos h]
    simp only [Bool.and_eq_true, all_in] at h
    exact ⟨fun _ => ⟨h.1.1, h.1.2, h.2⟩, fun _ => rfl⟩
  · rw [if_neg h]
    simp only [Bool.and_eq_true, all_in] at h
    exact ⟨fun h' => by omega, fun h' => absurd ⟨⟨h'.1, h'.2.1⟩, h'.2.2⟩ h⟩

/-- Places that rise within so many are no more. -/
theorem rising_len {lo hi : Int} : ∀ {l : List Int}, rising l = true → (∀ n ∈ l, lo ≤ n ∧ n < hi) → (l.length : Int) ≤ hi - lo ∨ l = []
  | [], _, _ => .inr rfl
  | x :: t, hr, h => by
    left
    have hx := h x (by simp)
    rcases rising_len (lo := x + 1) (hi := hi) (rising_tail hr) (fun n hn => ⟨by have := rising_cons hr n hn; omega, (h n (by simp [hn])).2⟩) with h1 | rfl
    · simp only [List.length_cons]; push_cast; omega
    · simp only [List.length_cons, List.length_nil]; omega

theorem putB_codes {dim : Int} {l : List Int} (h : checkP dim l = 0) (hl : l.length ≤ 1099511627776) : putB dim l = lebP l.length ++ codes (-1) l := by
  rw [putB, if_pos h, u64_in _ (by omega)]; rfl

theorem get_put (dim : Int) (l A B : List Int) (h : checkP dim l = 0) (hA : A.length ≤ 1099511627776) : igetP dim (A ++ (putB dim l ++ B)) A.length = (l, ((A.length + (putB dim l).length : Nat) : Int), 0) := by
  have h' := h
  rw [placed_iff] at h
  obtain ⟨hm, hr, hp⟩ := h
  have hm' := hm
  simp only [meas, Bool.and_eq_true, decide_eq_true_eq] at hm'
  have hlen : (l.length : Int) ≤ dim := by
    rcases rising_len hr hp with h | rfl
    · omega
    · simp; omega
  have h1 := lebP_le (l.length : Int) (by omega)
  have h2 := flat_lebP_le (gaps (-1) l) (fun n hn => (gaps_u64 _ _ n hn).2)
  rw [gaps_length] at h2
  rw [putB_codes h' (by omega), List.append_assoc, igetP, if_neg (by simp [hm])]
  have hg := getP_put A (codes (-1) l ++ B) l.length (by omega) (by omega)
  rw [hg]
  simp only
  rw [if_neg (by simp), if_neg (by omega), Int.toNat_natCast]
  have := iget_put dim hm'.2 B l (A ++ lebP l.length) (-1) [] hr (fun n hn => ⟨by have := hp n hn; omega, (hp n hn).2⟩) (by omega) (by simp only [List.length_append, codes]; omega)
  simp only [List.append_assoc, List.length_append, List.nil_append] at this
  rw [show ((A.length : Int) + ((lebP (l.length : Int)).length : Nat)) = (((A.length + (lebP (l.length : Int)).length : Nat)) : Int) by push_cast; rfl, this]
  simp only [List.length_append]
  refine Prod.ext rfl (Prod.ext ?_ rfl)
  simp only; push_cast; omega

/-- What is read was written so. -/
theorem iget_back (dim : Int) (hd : dim ≤ 4096) (b : List Int) (hb : b.length ≤ 1099511627776) (hu : U8s b) : ∀ (m : Nat) (at0 last : Int) (acc R : List Int) (p : Int), iget dim b m at0 last acc = (R, p, 0) → 0 ≤ at0 → at0 ≤ b.length → -1 ≤ last → last < dim →
    ∃ t, R = acc ++ t ∧ t.length = m ∧ rising t = true ∧ (∀ n ∈ t, last < n ∧ n < dim) ∧ p = at0 + (codes last t).length ∧ p ≤ b.length ∧ b.drop at0.toNat = codes last t ++ b.drop p.toNat
  | 0, at0, last, acc, R, p, h, h0, h1, h2, h3 => by
    simp only [iget, Prod.mk.injEq, and_true] at h
    obtain ⟨rfl, rfl⟩ := h
    exact ⟨[], by simp, rfl, rfl, by simp, by simp [codes, gaps], h1, by simp [codes, gaps]⟩
  | m + 1, at0, last, acc, R, p, h, h0, h1, h2, h3 => by
    rw [iget] at h
    split at h
    · rename_i he; simp only [Prod.mk.injEq] at h; exact absurd h.2.2 he
    · rename_i he
      split at h
      · simp at h
      · rename_i hf
        have hat := getP_at b at0 (by omega)
        have hg : getP b at0 = ((getP b at0).1, (getP b at0).2.1, 0) := by
          have : (getP b at0).2.2 = 0 := by simpa using he
          rw [← this]
        obtain ⟨k1, k2, k3, k4, k5, k6⟩ := getP_back b at0 _ _ (by omega) hu hg
        generalize (getP b at0).1 = v at *
        generalize (getP b at0).2.1 = q at *
        obtain ⟨t, g1, g2, g3, g4, g5, g6, g7⟩ := iget_back dim hd b hb hu m q (last + 1 + v) _ R p h (by omega) (by omega) (by omega) (by omega)
        have e : IntKind.u64.wrap (IntKind.i64.wrap (IntKind.i64.wrap (last + 1 + v - last) - 1)) = v := by
          rw [i64_in (last + 1 + v - last) (by omega), i64_in _ (by omega), u64_in _ (by omega)]; omega
        have ec : codes last ((last + 1 + v) :: t) = lebP v ++ codes (last + 1 + v) t := by simp [codes, gaps, e]
        refine ⟨(last + 1 + v) :: t, by rw [g1]; simp, by simp [g2], rising_mk g3 (fun y hy => (g4 y hy).1), ?_, ?_, g6, ?_⟩
        · intro n hn
          rcases List.mem_cons.1 hn with rfl | hn
          · omega
          · have := g4 n hn; omega
        · rw [ec, List.length_append, g5, k5]; push_cast; omega
        · rw [ec, k6, g7, List.append_assoc]

theorem put_get (dim : Int) (b : List Int) (at0 : Int) (R : List Int) (p : Int) (hb : b.length ≤ 1099511627776) (hu : U8s b) (h : igetP dim b at0 = (R, p, 0)) : checkP dim R = 0 ∧ 0 ≤ at0 ∧ at0 ≤ p ∧ p ≤ b.length ∧ b.drop at0.toNat = putB dim R ++ b.drop p.toNat := by
  rw [igetP] at h
  split at h
  · simp at h
  · rename_i hm
    split at h
    · rename_i he; simp only [Prod.mk.injEq] at h; exact absurd h.2.2 he
    · rename_i he
      split at h
      · simp at h
      · rename_i hf
        have hm1 : meas dim = true := by simpa using hm
        have hm' := hm1
        simp only [meas, Bool.and_eq_true, decide_eq_true_eq] at hm'
        have hat := getP_at b at0 (by omega)
        have hg : getP b at0 = ((getP b at0).1, (getP b at0).2.1, 0) := by
          have : (getP b at0).2.2 = 0 := by simpa using he
          rw [← this]
        obtain ⟨k1, k2, k3, k4, k5, k6⟩ := getP_back b at0 _ _ (by omega) hu hg
        generalize (getP b at0).1 = v at *
        generalize (getP b at0).2.1 = q at *
        obtain ⟨t, g1, g2, g3, g4, g5, g6, g7⟩ := iget_back dim hm'.2 b hb hu v.toNat q (-1) [] R p h (by omega) (by omega) (by omega) (by omega)
        simp only [List.nil_append] at g1
        subst g1
        have hc : checkP dim R = 0 := placed_iff.2 ⟨hm1, g3, fun n hn => ⟨by have := g4 n hn; omega, (g4 n hn).2⟩⟩
        refine ⟨hc, k1, by omega, g6, ?_⟩
        rw [putB_codes hc (by omega), show ((R.length : Nat) : Int) = v by omega, k6, g7, List.append_assoc]

theorem U8s_app {a b : List Int} (ha : U8s a) (hb : U8s b) : U8s (a ++ b) := by
  intro x hx
  rcases List.mem_append.1 hx with h | h
  · exact ha x h
  · exact hb x h

theorem putB_len (dim : Int) (l : List Int) (hl : l.length ≤ 1099511627776) : (putB dim l).length ≤ 10 * l.length + 10 := by
  unfold putB
  split
  · have h2 := flat_lebP_le (IntKind.u64.wrap l.length :: gaps (-1) l) (by
      intro n hn
      rcases List.mem_cons.1 hn with rfl | hn
      · exact (u64_ge _).2
      · exact (gaps_u64 _ _ n hn).2)
    simp only [List.length_cons, gaps_length] at h2
    omega
  · simp

end Go.Proofs.YtelobmiooldoaaaGreat.Abs
