/- Plain facts on codes of numbers. Conditions: none. -/
import Derived.Test.YthkofkhggdgcpaaPB
import Derived.Test.YthkofkhggdgcpaaIM
namespace Go.Proofs.Ythkofkhggdgcpaa.Abs
open Go Go.RowKit Go.IntWalk
set_option linter.unusedVariables false
set_option maxRecDepth 100000

/-- Does a list rise? -/
def rising : List Int → Bool
  | [] => true
  | x :: t => (match t with
    | [] => true
    | y :: _ => decide (x < y)) && rising t

theorem rises_l0 (l : List Int) (hl : l.length ≤ 4611686018427387904) : ∀ (t : List Int) (x : Int) (k : Nat), l.drop k = x :: t → M_index_rises_l0 l ((k + 1 : Nat) : Int) = some (if rising (x :: t) then .inr () else .inl false)
  | [], x, k, h => by
    have h1 := drop_at h
    rw [M_index_rises_l0, if_neg (drop_end h1.2.2)]
    simp [rising]
  | y :: t, x, k, h => by
    have h1 := drop_at h
    have h2 := drop_at h1.2.2
    have e1 : IntKind.i64.wrap (((k + 1 : Nat) : Int) - 1) = (k : Int) := by rw [i64_in _ (by omega)]; omega
    rw [M_index_rises_l0, if_pos h2.1, e1, if_pos (by omega), if_pos (by omega), h1.2.1, h2.2.1, i64_s (by omega), rises_l0 l hl t y (k + 1) h1.2.2]
    by_cases hxy : x < y
    · rw [if_neg (by omega)]; simp [rising, hxy]
    · rw [if_pos (by omega)]; simp [rising, hxy]

theorem rises_eq (l : List Int) (hl : l.length ≤ 4611686018427387904) : M_index_rises l = some (rising l) := by
  cases l with
  | nil => rw [M_index_rises, M_index_rises_l0]; simp [rising]
  | cons x t =>
    have := rises_l0 (x :: t) hl t x 0 rfl
    rw [M_index_rises, show (1 : Int) = ((0 + 1 : Nat) : Int) from rfl, this]
    cases rising (x :: t) <;> rfl

theorem refRises_l0 (l : List Int) (hl : l.length ≤ 4611686018427387904) : ∀ (t : List Int) (x : Int) (k : Nat), l.drop k = x :: t → M_thrumref06_rises_l0 l ((k + 1 : Nat) : Int) = some (if rising (x :: t) then .inr () else .inl false)
  | [], x, k, h => by
    have h1 := drop_at h
    rw [M_thrumref06_rises_l0, if_neg (drop_end h1.2.2)]
    simp [rising]
  | y :: t, x, k, h => by
    have h1 := drop_at h
    have h2 := drop_at h1.2.2
    have e1 : IntKind.i64.wrap (((k + 1 : Nat) : Int) - 1) = (k : Int) := by rw [i64_in _ (by omega)]; omega
    rw [M_thrumref06_rises_l0, if_pos h2.1, e1, if_pos (by omega), if_pos (by omega), h1.2.1, h2.2.1, i64_s (by omega), refRises_l0 l hl t y (k + 1) h1.2.2]
    by_cases hxy : x < y
    · rw [if_neg (by omega)]; simp [rising, hxy]
    · rw [if_pos (by omega)]; simp [rising, hxy]

theorem refRises_eq (l : List Int) (hl : l.length ≤ 4611686018427387904) : M_thrumref06_rises l = some (rising l) := by
  cases l with
  | nil => rw [M_thrumref06_rises, M_thrumref06_rises_l0]; simp [rising]
  | cons x t =>
    have := refRises_l0 (x :: t) hl t x 0 rfl
    rw [M_thrumref06_rises, show (1 : Int) = ((0 + 1 : Nat) : Int) from rfl, this]
    cases rising (x :: t) <;> rfl

/-- May a dimension be? -/
def meas (dim : Int) : Bool := decide (0 < dim) && decide (dim ≤ 4096)
/-- Places that may be: they rise, and lie within. -/
def placed (dim : Int) (l : List Int) : Bool := meas dim && rising l && l.all fun n => decide (0 ≤ n) && decide (n < dim)
def checkP (dim : Int) (l : List Int) : Int := if placed dim l then 0 else 1

theorem rising_all {lo hi : Int} : ∀ {l : List Int}, rising l = true → (∀ x, l.head? = some x → lo ≤ x) → (∀ x, l.getLast? = some x → x < hi) → ∀ n ∈ l, lo ≤ n ∧ n < hi
  | [], _, _, _, n, h => by simp at h
  | [x], _, h1, h2, n, h => by
    simp only [List.mem_singleton] at h; subst h
    exact ⟨h1 _ rfl, h2 _ rfl⟩
  | x :: y :: t, hr, h1, h2, n, h => by
    simp only [rising, Bool.and_eq_true, decide_eq_true_eq] at hr
    have hx := h1 x rfl
    have ih := rising_all (lo := lo) (hi := hi) (l := y :: t) (by simpa only [rising, Bool.and_eq_true] using hr.2) (fun z hz => by
      simp only [List.head?_cons, Option.some.injEq] at hz; subst hz; omega) (fun z hz => h2 z (by rw [List.getLast?_cons_cons]; exact hz))
    rcases List.mem_cons.1 h with rfl | h
    · exact ⟨hx, by have := (ih y (by simp)).2; omega⟩
    · exact ih n h

theorem all_in {dim : Int} {l : List Int} : (l.all fun n => decide (0 ≤ n) && decide (n < dim)) = true ↔ ∀ n ∈ l, 0 ≤ n ∧ n < dim := by
  simp [List.all_eq_true]

theorem measure_eq (dim : Int) : M_index_measure dim = some (meas dim) := by
  rw [M_index_measure, andB]
  simp [meas]

theorem Check_eq (dim : Int) (l : List Int) (hl : l.length ≤ 4611686018427387904) : M_index_Check dim l = some (checkP dim l) := by
  rw [M_index_Check, measure_eq, bindS, rises_eq l hl, bindS, orB]
  cases hm : meas dim with
  | false => simp [checkP, placed, hm]
  | true =>
    cases hr : rising l with
    | false => simp [checkP, placed, hr]
    | true =>
      rw [if_neg (by simp)]
      cases l with
      | nil => simp [checkP, placed, hm, hr]
      | cons x t =>
        have e1 : IntKind.i64.wrap ((((x :: t).length : Nat) : Int) - 1) = ((t.length : Nat) : Int) := by rw [i64_in _ (by simp at hl ⊢; omega)]; simp
        have e2 : at' (x :: t) ((t.length : Nat) : Int) = (x :: t).getLast (by simp) := by
          rw [at'_nat, List.getLast_eq_getElem]; simp
        rw [if_pos (by simp <;> omega), if_pos (by simp <;> omega), drop_at0]
        by_cases h0 : x < 0
        · rw [if_pos h0, checkP, if_neg]
          intro hp
          simp only [placed, Bool.and_eq_true, all_in] at hp
          have := (hp.2 x (by simp)).1
          omega
        · rw [if_neg h0, e1, if_pos (by simp <;> omega), e2]
          by_cases h1 : (x :: t).getLast (by simp) ≥ dim
          · rw [if_pos h1, checkP, if_neg]
            intro hp
            simp only [placed, Bool.and_eq_true, all_in] at hp
            have := (hp.2 _ (List.getLast_mem (by simp : x :: t ≠ []))).2
            omega
          · rw [if_neg h1, checkP, if_pos]
            simp only [placed, hm, hr, Bool.and_eq_true, all_in, true_and]
            exact rising_all hr (fun z hz => by simp only [List.head?_cons, Option.some.injEq] at hz; omega) (fun z hz => by
              rw [List.getLast?_eq_some_getLast (by simp), Option.some.injEq] at hz; omega)

theorem refCheck_l0 (dim : Int) (l : List Int) (hl : l.length ≤ 4611686018427387904) : ∀ (t : List Int) (k : Nat), l.drop k = t → M_thrumref06_Check_l0 dim l (k : Int) = some (if (t.all fun n => decide (0 ≤ n) && decide (n < dim)) then .inr () else .inl 1)
  | [], k, h => by
    rw [M_thrumref06_Check_l0, if_neg (drop_end h)]; rfl
  | x :: t, k, h => by
    have h1 := drop_at h
    rw [M_thrumref06_Check_l0, if_pos h1.1, if_pos (by omega), orB, h1.2.1, i64_s (by omega), refCheck_l0 dim l hl t (k + 1) h1.2.2]
    by_cases hx : 0 ≤ x ∧ x < dim
    · rw [if_neg (by simp; omega)]; simp [hx]
    · rw [if_pos (by simp; omega), if_neg (by simp; omega)]

theorem refCheck_eq (dim : Int) (l : List Int) (hl : l.length ≤ 4611686018427387904) : M_thrumref06_Check dim l = some (checkP dim l) := by
  rw [M_thrumref06_Check, orB, refRises_eq l hl, bindS, orB]
  have hc := refCheck_l0 dim l hl l 0 rfl
  rw [show ((0 : Nat) : Int) = 0 from rfl] at hc
  by_cases hm : meas dim = true
  · have hm' := hm
    simp only [meas, Bool.and_eq_true, decide_eq_true_eq] at hm'
    cases hr : rising l with
    | false => simp [checkP, placed, hr]
    | true =>
      rw [if_neg (by simp; omega), hc]
      by_cases ha : (l.all fun n => decide (0 ≤ n) && decide (n < dim)) = true
      · rw [if_pos ha, checkP, if_pos (by simp only [placed, hm, hr, ha, Bool.and_self])]; rfl
      · rw [if_neg ha, checkP, if_neg (by simp only [placed, hm, hr, Bool.true_and]; exact ha)]; rfl
  · have hm' := hm
    simp only [meas, Bool.and_eq_true, decide_eq_true_eq] at hm'
    rw [if_pos (by simp; omega), checkP, if_neg]
    simp only [placed, Bool.and_eq_true]
    exact fun h => hm h.1.1

/-- A number's code: seven bits a byte. -/
def lebP (n : Int) : List Int := if 127 < n then bOr .u8 (IntKind.u8.wrap n) 128 :: lebP (sShr .u64 n 7) else [IntKind.u8.wrap n]
  termination_by n.toNat
  decreasing_by
  simp only [sShr]
  have : min (7 : Int).toNat IntKind.u64.bits = 7 := by decide
  rw [this, Int.fdiv_eq_ediv_of_nonneg _ (by decide)]
  omega

theorem shr7 (n : Int) : sShr .u64 n 7 = n / 128 := by
  simp only [sShr]
  have : min (7 : Int).toNat IntKind.u64.bits = 7 := by decide
  rw [this, Int.fdiv_eq_ediv_of_nonneg _ (by decide)]; rfl

theorem lebP_le (n : Int) (h : n ≤ 18446744073709551615) : (lebP n).length ≤ 10 := by
  suffices ∀ (k : Nat) (n : Int), n < 128 ^ (k + 1) → (lebP n).length ≤ k + 1 from this 9 n (by omega)
  intro k
  induction k with
  | zero => intro n h; rw [lebP, if_neg (by omega)]; simp
  | succ k ih =>
    intro n h
    rw [lebP]
    split
    · have := ih (sShr .u64 n 7) (by
        rw [shr7]
        have e : (128 : Int) ^ (k + 1 + 1) = 128 * 128 ^ (k + 1) := by rw [Int.pow_succ, Int.mul_comm]
        rw [e] at h
        omega)
      simpa using this
    · simp

theorem leb_put_l0 (b : List Int) (n : Int) (hb : b.length + (lebP n).length ≤ 140737488355328) : ∃ c m, M_leb_put_l0 b n = some (c, m) ∧ c ++ [IntKind.u8.wrap m] = b ++ lebP n := by
  suffices ∀ (k : Nat) (b : List Int) (n : Int), n.toNat ≤ k → b.length + (lebP n).length ≤ 140737488355328 → ∃ c m, M_leb_put_l0 b n = some (c, m) ∧ c ++ [IntKind.u8.wrap m] = b ++ lebP n from this _ b n (Nat.le_refl _) hb
  clear hb n b
  intro k
  induction k with
  | zero =>
    intro b n hn hb
    rw [M_leb_put_l0, if_neg (by omega), lebP, if_neg (by omega)]
    exact ⟨b, n, rfl, rfl⟩
  | succ k ih =>
    intro b n hn hb
    rw [M_leb_put_l0]
    by_cases h : 127 < n
    · rw [lebP, if_pos h] at hb
      simp only [List.length_cons] at hb
      rw [if_pos h, if_pos (room1 (by simp; omega))]
      obtain ⟨c, m, h1, h2⟩ := ih (b ++ [bOr .u8 (IntKind.u8.wrap n) 128]) (sShr .u64 n 7) (by rw [shr7]; omega) (by simp; omega)
      refine ⟨c, m, h1, ?_⟩
      rw [h2]
      conv => rhs; rw [lebP, if_pos h]
      simp
    · rw [if_neg h, lebP, if_neg h]
      exact ⟨b, n, rfl, rfl⟩

theorem leb_put_eq (b : List Int) (n : Int) (hb : b.length + (lebP n).length ≤ 140737488355328) : M_leb_put b n = some (b ++ lebP n) := by
  obtain ⟨c, m, h1, h2⟩ := leb_put_l0 b n hb
  have := congrArg List.length h2
  simp only [List.length_append] at this
  rw [M_leb_put, h1, bindS, if_pos (room1 (by simp only [List.length_append] at this ⊢; omega)), h2]

theorem clone_eq (b : List Int) (hb : b.length ≤ 140737488355328) : M_slices_Clone_byte_byte b = some b := by
  rw [M_slices_Clone_byte_byte]
  simp only [List.nil_append]
  rw [if_pos (room1 hb)]

theorem leb_Put_l0 (ns : List Int) (hn : ns.length ≤ 4611686018427387904) : ∀ (t : List Int) (k : Nat) (b : List Int), ns.drop k = t → b.length + (t.flatMap lebP).length ≤ 140737488355328 → M_leb_Put_l0 ns (k : Int) b = some (b ++ t.flatMap lebP)
  | [], k, b, h, hb => by
    rw [M_leb_Put_l0, if_neg (drop_end h)]; simp
  | x :: t, k, b, h, hb => by
    have h1 := drop_at h
    simp only [List.flatMap_cons, List.length_append] at hb
    rw [M_leb_Put_l0, if_pos h1.1, if_pos (by omega), h1.2.1, leb_put_eq b x (by omega), bindS, i64_s (by omega), leb_Put_l0 ns hn t (k + 1) _ h1.2.2 (by simp only [List.length_append]; omega)]
    simp

theorem leb_Put_eq (b ns : List Int) (hn : ns.length ≤ 4611686018427387904) (hb : b.length + (ns.flatMap lebP).length ≤ 140737488355328) : M_leb_Put b ns = some (b ++ ns.flatMap lebP) := by
  have h1 := leb_Put_l0 ns hn ns 0 b rfl hb
  rw [show ((0 : Nat) : Int) = 0 from rfl] at h1
  rw [M_leb_Put, clone_eq b (by omega), bindS, h1, bindS]

/-- How far each place is from the one ahead. -/
def gaps (last : Int) : List Int → List Int
  | [] => []
  | n :: r => IntKind.u64.wrap (IntKind.i64.wrap (IntKind.i64.wrap (n - last) - 1)) :: gaps n r

theorem gaps_length : ∀ (last : Int) (l : List Int), (gaps last l).length = l.length
  | _, [] => rfl
  | last, n :: r => by simp [gaps, gaps_length n r]

theorem flat_lebP_le : ∀ (l : List Int), (∀ n ∈ l, n ≤ 18446744073709551615) → (l.flatMap lebP).length ≤ 10 * l.length
  | [], _ => by simp
  | n :: l, h => by
    have h1 := lebP_le n (h n (by simp))
    have h2 := flat_lebP_le l fun m hm => h m (by simp [hm])
    simp only [List.flatMap_cons, List.length_append, List.length_cons]
    omega

theorem gaps_u64 : ∀ (last : Int) (l : List Int), ∀ n ∈ gaps last l, 0 ≤ n ∧ n ≤ 18446744073709551615
  | _, [], n, h => by simp [gaps] at h
  | last, m :: r, n, h => by
    simp only [gaps, List.mem_cons] at h
    rcases h with rfl | h
    · exact u64_ge _
    · exact gaps_u64 m r n h

/-- What index.Put writes. -/
def putB (dim : Int) (l : List Int) : List Int := if checkP dim l = 0 then (IntKind.u64.wrap l.length :: gaps (-1) l).flatMap lebP else []

theorem Put_l0 (l : List Int) (hl : l.length ≤ 1099511627776) : ∀ (t : List Int) (k : Nat) (last : Int) (b : List Int), l.drop k = t → b.length + t.length ≤ 1099511627777 → M_index_Put_l0 l (k : Int) last b = some (b ++ gaps last t)
  | [], k, last, b, h, hb => by
    rw [M_index_Put_l0, if_neg (drop_end h)]; simp [gaps]
  | x :: t, k, last, b, h, hb => by
    have h1 := drop_at h
    simp only [List.length_cons] at hb
    rw [M_index_Put_l0, if_pos h1.1, if_pos (by omega), if_pos (room8 (by simp; omega)), bindS, i64_s (by omega), h1.2.1, Put_l0 l hl t (k + 1) x _ h1.2.2 (by simp; omega)]
    simp [gaps]

theorem Put_eq (dim : Int) (l : List Int) (hl : l.length ≤ 1099511627776) : M_index_Put dim l = some (putB dim l, checkP dim l) := by
  rw [M_index_Put, Check_eq dim l (by omega), bindS]
  by_cases h : checkP dim l = 0
  · have e1 : IntKind.i64.wrap ((l.length : Int) + 1) = l.length + 1 := i64_in _ (by omega)
    have h1 := Put_l0 l hl l 0 (-1) [IntKind.u64.wrap (l.length : Int)] rfl (by simp; omega)
    rw [show ((0 : Nat) : Int) = 0 from rfl] at h1
    rw [if_neg (by simp [h]), e1, if_pos (by omega), bindS]
    simp only [Int.toNat_zero, List.replicate_zero, List.nil_append]
    rw [if_pos (room8 (by simp)), bindS, h1, bindS]
    have h2 := flat_lebP_le (IntKind.u64.wrap l.length :: gaps (-1) l) (by
      intro n hn
      rcases List.mem_cons.1 hn with rfl | hn
      · exact (u64_ge _).2
      · exact (gaps_u64 _ _ n hn).2)
    simp only [List.length_cons, gaps_length] at h2
    rw [List.cons_append, List.nil_append, leb_Put_eq [] _ (by simp [gaps_length]; omega) (by simp only [List.length_nil]; omega), bindS, putB, if_pos h, h]
    simp
  · rw [if_pos h, putB, if_neg h]

def U8s (b : List Int) : Prop := ∀ x ∈ b, 0 ≤ x ∧ x ≤ 255

theorem and127 {x : Int} (h0 : 0 ≤ x) (h1 : x ≤ 255) : bAnd .u8 x 127 = x % 128 := by
  have h : ∀ i : Fin 256, bAnd .u8 ((i.val : Nat) : Int) 127 = ((i.val : Nat) : Int) % 128 := by decide +kernel
  have := h ⟨x.toNat, by omega⟩
  simpa [Int.toNat_of_nonneg h0] using this

/-- A code read on, from a place and what was read. -/
def getGo (at0 : Int) : List Int → Nat → Int → Int × Int × Int
  | [], _, _ => (0, 0, 5)
  | x :: c, k, n =>
    if (k = 9 ∧ 1 < x) ∨ (x = 0 ∧ 0 < k) then (0, 0, 6)
    else if x < 128 then (bOr .u64 n (sShl .u64 (x % 128) (7 * (k : Int))), IntKind.i64.wrap (at0 + k) + 1, 0)
    else getGo at0 c (k + 1) (bOr .u64 n (sShl .u64 (x % 128) (7 * (k : Int))))

/-- A code read. -/
def getP (b : List Int) (at0 : Int) : Int × Int × Int := if at0 < 0 then (0, 0, 1) else getGo at0 (b.drop at0.toNat) 0 0

theorem leb_Get_l0 (at0 : Int) (y : List Int) (h0 : 0 ≤ at0) (ha : at0 + y.length ≤ 9223372036854775806 ∨ y = []) (hu : U8s y) : ∀ (c : List Int) (k : Nat) (n : Int), k ≤ 9 → y.drop k = c →
    M_leb_Get_l0 at0 y (k : Int) n = some (if getGo at0 c k n = (0, 0, 5) ∧ (∀ x ∈ c, 128 ≤ x) then .inr () else .inl (getGo at0 c k n)) := by
  intro c
  induction c with
  | nil =>
    intro k n hk h
    rw [M_leb_Get_l0, if_neg (drop_end h)]; simp [getGo]
  | cons x c ih =>
    intro k n hk h
    have h1 := drop_at h
    have hx : 0 ≤ x ∧ x ≤ 255 := hu x (List.mem_of_mem_drop (by rw [h]; simp))
    have ha' : at0 + y.length ≤ 9223372036854775806 := by
      rcases ha with ha | rfl
      · exact ha
      · simp at h
    rw [M_leb_Get_l0, if_pos h1.1, if_pos (by omega), h1.2.1]
    simp only [orB, andB]
    have e1 : IntKind.i64.wrap (7 * (k : Int)) = 7 * k := i64_in _ (by omega)
    have e2 : IntKind.i64.wrap (at0 + (k : Int)) = at0 + k := i64_in _ (by omega)
    have e3 : IntKind.u64.wrap (bAnd .u8 x 127) = x % 128 := by rw [and127 hx.1 hx.2, u64_in _ (by omega)]
    by_cases hb : (k = 9 ∧ 1 < x) ∨ (x = 0 ∧ 0 < k)
    · rw [if_pos (by simp; omega), getGo, if_pos hb]
      simp
    · rw [if_neg (by simp; omega), e1, if_pos (by omega), e3, bindS, getGo, if_neg hb]
      by_cases hx1 : x < 128
      · rw [if_pos hx1, if_pos hx1, e2]
        rw [i64_in (at0 + k + 1) (by omega), if_neg (by simp)]
      · rw [if_neg hx1, if_neg hx1, i64_s (by omega), ih (k + 1) _ (by omega) h1.2.2]
        simp only [List.mem_cons, forall_eq_or_imp, show 128 ≤ x by omega, true_and]

theorem cut_none {α : Type} (l : List α) (a : Int) (h : a ≤ l.length) : cut' l (some a) none = l.drop a.toNat := by
  simp [cut']

theorem leb_Get_eq (b : List Int) (at0 : Int) (hb : b.length ≤ 4611686018427387904) (hu : U8s b) (hat : at0 ≤ 9223372036854775807) : M_leb_Get b at0 = some (getP b at0) := by
  rw [M_leb_Get, getP]
  by_cases h0 : at0 < 0
  · rw [if_pos h0, if_pos h0]
  rw [if_neg h0, if_neg h0]
  have hmin : (if (b.length : Int) < at0 then (b.length : Int) else at0).toNat = min at0.toNat b.length := by
    split <;> omega
  have hd : cut' b (some (if (b.length : Int) < at0 then (b.length : Int) else at0)) none = b.drop at0.toNat := by
    rw [cut_none _ _ (by split <;> omega), hmin]
    rcases Nat.le_total at0.toNat b.length with h | h
    · rw [Nat.min_eq_left h]
    · rw [Nat.min_eq_right h, List.drop_eq_nil_of_le (Nat.le_refl _), List.drop_eq_nil_of_le h]
  rw [if_pos (by simp only [cutOk, Option.getD_some, Option.getD_none]; split <;> omega), hd, bindS]
  have hl := leb_Get_l0 at0 (b.drop at0.toNat) (by omega) (by
    rcases Nat.lt_or_ge at0.toNat b.length with h | h
    · left; simp only [List.length_drop]; omega
    · right; exact List.drop_eq_nil_of_le h) (fun x hx => hu x (List.mem_of_mem_drop hx)) (b.drop at0.toNat) 0 0 (by omega) rfl
  rw [show ((0 : Nat) : Int) = 0 from rfl] at hl
  rw [hl]
  by_cases hc : getGo at0 (b.drop at0.toNat) 0 0 = (0, 0, 5) ∧ ∀ x ∈ b.drop at0.toNat, 128 ≤ x
  · rw [if_pos hc, hc.1]; rfl
  · rw [if_neg hc]; rfl

theorem getGo_err (at0 : Int) : ∀ (c : List Int) (k : Nat) (n : Int), (getGo at0 c k n).2.2 = 0 ∨ getGo at0 c k n = (0, 0, 5) ∨ getGo at0 c k n = (0, 0, 6)
  | [], k, n => by simp [getGo]
  | x :: c, k, n => by
    rw [getGo]
    split
    · simp
    · split
      · simp
      · exact getGo_err at0 c _ _


theorem getGo_at (at0 : Int) (h0 : 0 ≤ at0) (B : Int) (hB : B ≤ 9223372036854775806) (hB0 : 0 ≤ B) : ∀ (c : List Int) (k : Nat) (n : Int), at0 + k + c.length ≤ B ∨ c = [] → 0 ≤ (getGo at0 c k n).2.1 ∧ (getGo at0 c k n).2.1 ≤ B
  | [], k, n, _ => by simp [getGo, hB0]
  | x :: c, k, n, h => by
    simp only [List.length_cons, reduceCtorEq, or_false] at h
    rw [getGo]
    split
    · simp [hB0]
    · split
      · simp only
        rw [i64_in _ (by omega)]; omega
      · exact getGo_at at0 h0 B hB hB0 c (k + 1) _ (.inl (by omega))

theorem getP_at (b : List Int) (at0 : Int) (hb : b.length ≤ 4611686018427387904) : 0 ≤ (getP b at0).2.1 ∧ (getP b at0).2.1 ≤ b.length := by
  unfold getP
  split
  · simp
  · rename_i h
    refine getGo_at at0 (by omega) b.length (by omega) (by omega) _ 0 0 ?_
    rcases Nat.lt_or_ge at0.toNat b.length with h1 | h1
    · left; simp only [List.length_drop]; omega
    · right; exact List.drop_eq_nil_of_le h1

theorem getGo_u64 (at0 : Int) : ∀ (c : List Int) (k : Nat) (n : Int), 0 ≤ (getGo at0 c k n).1 ∧ (getGo at0 c k n).1 ≤ 18446744073709551615
  | [], k, n => by simp [getGo]
  | x :: c, k, n => by
    rw [getGo]
    split
    · simp
    · split
      · exact u64_ge _
      · exact getGo_u64 at0 c (k + 1) _
theorem getP_u64 (b : List Int) (at0 : Int) : 0 ≤ (getP b at0).1 ∧ (getP b at0).1 ≤ 18446744073709551615 := by
  unfold getP
  split
  · simp
  · exact getGo_u64 _ _ _ _

/-- So many places read on: from where, behind which place, and those that were read. -/
def iget (dim : Int) (b : List Int) : Nat → Int → Int → List Int → List Int × Int × Int
  | 0, at0, _, acc => (acc, at0, 0)
  | m + 1, at0, last, acc =>
    if (getP b at0).2.2 ≠ 0 then ([], 0, (getP b at0).2.2)
    else if dim - 1 - last ≤ (getP b at0).1 then ([], 0, 6)
    else iget dim b m (getP b at0).2.1 (last + 1 + (getP b at0).1) (acc ++ [last + 1 + (getP b at0).1])

/-- What index.Get answers. -/
def igetP (dim : Int) (b : List Int) (at0 : Int) : List Int × Int × Int :=
  if meas dim = false then ([], 0, 1)
  else if (getP b at0).2.2 ≠ 0 then ([], 0, (getP b at0).2.2)
  else if dim < (getP b at0).1 then ([], 0, 6)
  else iget dim b (getP b at0).1.toNat (getP b at0).2.1 (-1) []

theorem iGet_l0 (dim : Int) (hd : dim ≤ 4096) (b : List Int) (hb : b.length ≤ 4611686018427387904) (hu : U8s b) (r2 : Int × Int × Int) (hr : r2.1 ≤ 4096) : ∀ (j i : Nat) (last : Int) (acc : List Int) (at0 : Int), (i : Int) + j = r2.1 → acc.length ≤ i → at0 ≤ 9223372036854775807 → -1 ≤ last → last < dim →
    ∃ p q, M_index_Get_l0 dim b r2 (i : Int) last acc 0 at0 = some ((iget dim b j at0 last acc).2.2, p, q) ∧ ((iget dim b j at0 last acc).2.2 = 0 → p = (iget dim b j at0 last acc).2.1 ∧ q = (iget dim b j at0 last acc).1) ∧ ((iget dim b j at0 last acc).2.2 ≠ 0 → iget dim b j at0 last acc = ([], 0, (iget dim b j at0 last acc).2.2)) := by
  intro j
  induction j with
  | zero =>
    intro i last acc at0 hi ha hat hl1 hl2
    rw [M_index_Get_l0, andB, if_neg (by simp; omega)]
    exact ⟨at0, acc, rfl, fun _ => ⟨rfl, rfl⟩, fun h => absurd rfl h⟩
  | succ j ih =>
    intro i last acc at0 hi ha hat hl1 hl2
    rw [M_index_Get_l0, andB, if_pos (by simp; omega), leb_Get_eq b at0 hb hu hat, bindS]
    by_cases he : (getP b at0).2.2 ≠ 0
    · rw [if_pos he]
      simp only [iget, if_pos he]
      exact ⟨_, _, rfl, fun h => absurd h he, fun _ => trivial⟩
    · have e1 : IntKind.u64.wrap (IntKind.i64.wrap (IntKind.i64.wrap (dim - 1) - last)) = dim - 1 - last := by
        rw [i64_in (dim - 1) (by omega), i64_in _ (by omega), u64_in _ (by omega)]
      rw [if_neg he, e1]
      have h1 := getP_u64 b at0
      have h2 := getP_at b at0 hb
      by_cases hf : dim - 1 - last ≤ (getP b at0).1
      · rw [if_pos hf]
        simp only [iget, if_neg he, if_pos hf]
        exact ⟨_, _, rfl, fun h => absurd h (by decide), fun _ => trivial⟩
      · have e2 : IntKind.i64.wrap (last + IntKind.i64.wrap (1 + IntKind.i64.wrap (getP b at0).1)) = last + 1 + (getP b at0).1 := by
          rw [i64_in (getP b at0).1 (by omega), i64_in (1 + (getP b at0).1) (by omega), i64_in _ (by omega)]; omega
        rw [if_neg hf, e2, bindS, if_pos (room8 (by simp; omega)), bindS, u64_s (by omega)]
        simp only [iget, if_neg he, if_neg hf]
        have he' : (getP b at0).2.2 = 0 := by simpa using he
        rw [he']
        exact ih (i + 1) _ _ _ (by omega) (by simp; omega) (by omega) (by omega) (by omega)

theorem iGet_eq (dim : Int) (b : List Int) (at0 : Int) (hb : b.length ≤ 4611686018427387904) (hu : U8s b) (hat : at0 ≤ 9223372036854775807) : M_index_Get dim b at0 = some (igetP dim b at0) := by
  rw [M_index_Get, measure_eq, bindS, igetP]
  cases hm : meas dim with
  | false => rfl
  | true =>
    have hm' := hm
    simp only [meas, Bool.and_eq_true, decide_eq_true_eq] at hm'
    rw [if_neg (by simp), if_neg (by simp), leb_Get_eq b at0 hb hu hat, bindS, andB, u64_in dim (by omega)]
    have h1 := getP_u64 b at0
    have h2 := getP_at b at0 hb
    by_cases he : (getP b at0).2.2 ≠ 0
    · rw [if_neg (by simp [he]), bindS, if_pos he, M_index_Get_l0, andB, if_neg (by simp [he]), bindS, if_pos he]
    · have he' : (getP b at0).2.2 = 0 := by simpa using he
      rw [if_neg he, he']
      by_cases hf : dim < (getP b at0).1
      · rw [if_pos (by simp; omega), bindS, if_pos hf, M_index_Get_l0, andB, if_neg (by simp), bindS, if_pos (by simp)]
      · rw [if_neg (by simp; omega), bindS, if_neg hf]
        obtain ⟨p, q, g1, g2, g3⟩ := iGet_l0 dim hm'.2 b hb hu (getP b at0) (by omega) (getP b at0).1.toNat 0 (-1) [] (getP b at0).2.1 (by omega) (by simp) (by omega) (by omega) (by omega)
        rw [show ((0 : Nat) : Int) = 0 from rfl] at g1
        rw [g1, bindS]
        by_cases hz : (iget dim b (getP b at0).1.toNat (getP b at0).2.1 (-1) []).2.2 = 0
        · rw [if_neg (by simpa using hz)]
          obtain ⟨rfl, rfl⟩ := g2 hz
          generalize iget dim b (getP b at0).1.toNat (getP b at0).2.1 (-1) [] = R at hz
          obtain ⟨x, y, z⟩ := R
          simp only at hz; subst hz; rfl
        · rw [if_pos hz]
          exact congrArg some (g3 hz).symm

theorem strB_list (l : List Int) : (strB l).toList = l.map fun x => UInt8.ofNat x.toNat := by
  rw [ByteArray.toList_eq, strB, strOf]
  simp only [List.map_map]
  rfl

theorem u8_map_inj : ∀ {a b : List Int}, U8s a → U8s b → a.map (fun x => UInt8.ofNat x.toNat) = b.map (fun x => UInt8.ofNat x.toNat) → a = b
  | [], [], _, _, _ => rfl
  | [], y :: b, _, _, h => by simp at h
  | x :: a, [], _, _, h => by simp at h
  | x :: a, y :: b, ha, hb, h => by
    simp only [List.map_cons, List.cons.injEq] at h
    have hx := ha x (by simp)
    have hy := hb y (by simp)
    have h3 := congrArg UInt8.toNat h.1
    simp only [UInt8.toNat_ofNat'] at h3
    rw [u8_map_inj (fun z hz => ha z (by simp [hz])) (fun z hz => hb z (by simp [hz])) h.2]
    congr 1
    omega

theorem Same_eq (a b : List Int) (ha : U8s a) (hb : U8s b) : M_thrumref03_Same a b = some (decide (a = b)) := by
  rw [M_thrumref03_Same]
  congr 1
  by_cases h : a = b
  · subst h; simp
  · rw [decide_eq_false h]
    rw [beq_eq_false_iff_ne]
    rw [strB_list, strB_list]
    exact fun e => h (u8_map_inj ha hb e)

theorem Equal_l0 (a b : List Int) (hl : a.length = b.length) (hb : a.length ≤ 4611686018427387904) : ∀ (t u : List Int) (k : Nat), a.drop k = t → b.drop k = u → M_thrumref06_Equal_l0 a b (k : Int) = some (if t = u then .inr () else .inl false)
  | [], u, k, h1, h2 => by
    have := List.drop_eq_nil_iff.1 h1
    have h3 : u = [] := by rw [← h2]; exact List.drop_eq_nil_of_le (by omega)
    rw [M_thrumref06_Equal_l0, if_neg (drop_end h1), h3]; rfl
  | x :: t, [], k, h1, h2 => by
    have := List.drop_eq_nil_iff.1 h2
    have := (drop_at h1).1
    omega
  | x :: t, y :: u, k, h1, h2 => by
    have g1 := drop_at h1
    have g2 := drop_at h2
    rw [M_thrumref06_Equal_l0, if_pos g1.1, if_pos (by omega), if_pos (by omega), g1.2.1, g2.2.1, i64_s (by omega), Equal_l0 a b hl hb t u (k + 1) g1.2.2 g2.2.2]
    by_cases hxy : x = y
    · subst hxy; simp
    · simp [hxy]

theorem Equal_eq (a b : List Int) (hb : a.length ≤ 4611686018427387904) : M_thrumref06_Equal a b = some (decide (a = b)) := by
  rw [M_thrumref06_Equal]
  by_cases hl : a.length = b.length
  · have := Equal_l0 a b hl hb a b 0 rfl rfl
    rw [show ((0 : Nat) : Int) = 0 from rfl] at this
    rw [if_neg (by omega), this]
    by_cases h : a = b
    · simp [h]
    · simp [h]
  · rw [if_pos (by omega), decide_eq_false (fun h => hl (by rw [h]))]

theorem lebP_small {n : Int} (h : ¬ 127 < n) : lebP n = [IntKind.u8.wrap n] := by rw [lebP, if_neg h]

theorem live_put : putB 9 [1, 2, 5] = [3, 1, 0, 2] := by
  have : checkP 9 [1, 2, 5] = 0 := by decide
  rw [putB, if_pos this]
  have h1 : (IntKind.u64.wrap ([1, 2, 5] : List Int).length :: gaps (-1) [1, 2, 5]) = [3, 1, 0, 2] := by decide
  rw [h1]
  simp only [List.flatMap_cons, List.flatMap_nil]
  rw [lebP_small (by omega), lebP_small (by omega), lebP_small (by omega), lebP_small (by omega)]
  decide

theorem live6_eq : M_thrumlaw06_live = some true := by
  rw [M_thrumlaw06_live, Put_eq 9 [1, 2, 5] (by decide), bindS, live_put, iGet_eq 9 [3, 1, 0, 2] 0 (by decide) (by simp [U8s]) (by decide), bindS, Same_eq _ _ (by simp [U8s]) (by simp [U8s]), bindS]
  have h1 : checkP 9 [1, 2, 5] = 0 := by decide
  have h2 : igetP 9 [3, 1, 0, 2] 0 = ([1, 2, 5], 4, 0) := by decide
  rw [h1, h2, Equal_eq _ _ (by decide)]
  rfl

theorem few1_eq (l : List Int) (hl : l.length ≤ 4611686018427387904) : M_thrumlaw06_few [l] = some (decide (l.length ≤ 600)) := by
  rw [M_thrumlaw06_few, M_thrumlaw06_few_l0, if_pos (by simp), if_pos (by simp), M_thrumlaw06_few_l0, if_neg (by rw [i64_in _ (by omega)]; simp), bindS, andB, drop_at0]
  have : IntKind.i64.wrap (0 + (l.length : Int)) = l.length := by rw [i64_in _ (by omega)]; omega
  rw [this]
  by_cases h : l.length ≤ 600
  · simp [h]; omega
  · simp [h]; omega

theorem lebP_u8 : ∀ (k : Nat) (n : Int), n.toNat ≤ k → U8s (lebP n) := by
  intro k
  induction k with
  | zero =>
    intro n h x hx
    rw [lebP_small (by omega), List.mem_singleton] at hx; subst hx
    exact u8_ge _
  | succ k ih =>
    intro n h x hx
    rw [lebP] at hx
    split at hx
    · rcases List.mem_cons.1 hx with rfl | hx
      · exact u8_ge _
      · exact ih _ (by rw [shr7]; omega) x hx
    · simp only [List.mem_singleton] at hx; subst hx
      exact u8_ge _

theorem putB_u8 (dim : Int) (l : List Int) : U8s (putB dim l) := by
  unfold putB
  split
  · intro x hx
    obtain ⟨n, _, hn⟩ := List.mem_flatMap.1 hx
    exact lebP_u8 _ n (Nat.le_refl _) x hn
  · intro x hx; simp at hx

theorem rising_tail {x : Int} {t : List Int} (h : rising (x :: t) = true) : rising t = true := by
  cases t with
  | nil => rfl
  | cons y t => simp only [rising, Bool.and_eq_true] at h ⊢; exact h.2
theorem rising_cons {x : Int} {t : List Int} (h : rising (x :: t) = true) : ∀ y ∈ t, x < y := by
  induction t generalizing x with
  | nil => simp
  | cons y t ih =>
    intro z hz
    simp only [rising, Bool.and_eq_true, decide_eq_true_eq] at h
    have h2 : rising (y :: t) = true := by simp only [rising, Bool.and_eq_true]; exact h.2
    rcases List.mem_cons.1 hz with rfl | hz
    · exact h.1
    · have := ih h2 z hz; omega
theorem rising_mk {x : Int} {t : List Int} (h : rising t = true) (hx : ∀ y ∈ t, x < y) : rising (x :: t) = true := by
  cases t with
  | nil => rfl
  | cons y t =>
    have h1 := hx y (by simp)
    simp only [rising, Bool.and_eq_true] at h ⊢
    exact ⟨by simpa using h1, h⟩

theorem placed_iff {dim : Int} {l : List Int} : checkP dim l = 0 ↔ meas dim = true ∧ rising l = true ∧ ∀ n ∈ l, 0 ≤ n ∧ n < dim := by
  unfold checkP placed
  by_cases h : (meas dim && rising l && l.all fun n => decide (0 ≤ n) && decide (n < dim)) = true
  · rw [if_pos h]
    simp only [Bool.and_eq_true, all_in] at h
    exact ⟨fun _ => ⟨h.1.1, h.1.2, h.2⟩, fun _ => rfl⟩
  · rw [if_neg h]
    simp only [Bool.and_eq_true, all_in] at h
    exact ⟨fun h' => by omega, fun h' => absurd ⟨⟨h'.1, h'.2.1⟩, h'.2.2⟩ h⟩

/-- Places that rise within so many are no more. -/
theorem rising_len {lo hi : Int} : ∀ {l : List Int}, rising l = true → (∀ n ∈ l, lo ≤ n ∧ n < hi) → (l.length : Int) ≤ hi - lo ∨ l = []
  | [], _, _ => .inr rfl
  | x :: t, hr, h => by
    left
    have hx := h x (by simp)
    rcases rising_len (lo := x + 1) (hi := hi) (rising_tail hr) (fun n hn => ⟨by have := rising_cons hr n hn; omega, (h n (by simp [hn])).2⟩) with h1 | rfl
    · simp only [List.length_cons]; push_cast; omega
    · simp only [List.length_cons, List.length_nil]; omega

theorem cut_to {α : Type} (l : List α) (b : Int) : cut' l none (some b) = l.take b.toNat := by simp [cut']


theorem Gc_eq (n : Int) (v : List Int) : M_index_Gather_1_c n v = some (decide (n < 0) || decide (n ≥ v.length)) := by rw [M_index_Gather_1_c, orB]

theorem IndexFunc_l0 (l v : List Int) (hl : l.length ≤ 4611686018427387904) : ∀ (t : List Int) (k : Nat), l.drop k = t → ∃ e, M_slices_IndexFunc_int_int_index_Gather_1_l0 l v (k : Int) = some e ∧ ((∀ n ∈ t, 0 ≤ n ∧ n < v.length) → e = .inr ()) ∧ (¬ (∀ n ∈ t, 0 ≤ n ∧ n < v.length) → ∃ i : Int, 0 ≤ i ∧ e = .inl i)
  | [], k, h => by
    rw [M_slices_IndexFunc_int_int_index_Gather_1_l0, if_neg (drop_end h)]
    exact ⟨_, rfl, fun _ => rfl, fun h => absurd (by simp) h⟩
  | x :: t, k, h => by
    have h1 := drop_at h
    obtain ⟨e, g1, g2, g3⟩ := IndexFunc_l0 l v hl t (k + 1) h1.2.2
    rw [M_slices_IndexFunc_int_int_index_Gather_1_l0, if_pos h1.1, if_pos (by omega), h1.2.1, Gc_eq, bindS, i64_s (by omega), g1]
    by_cases hx : 0 ≤ x ∧ x < v.length
    · rw [if_neg (by simp; omega)]
      refine ⟨e, rfl, fun h => g2 fun n hn => h n (by simp [hn]), fun h => g3 fun h' => h fun n hn => ?_⟩
      rcases List.mem_cons.1 hn with rfl | hn
      · exact hx
      · exact h' n hn
    · rw [if_pos (by simp; omega)]
      exact ⟨_, rfl, fun h => absurd (h x (by simp)) hx, fun _ => ⟨k, by omega, rfl⟩⟩

theorem Contains_eq (l v : List Int) (hl : l.length ≤ 4611686018427387904) : M_slices_ContainsFunc_int_int_index_Gather_1 l v = some (decide (¬ ∀ n ∈ l, 0 ≤ n ∧ n < (v.length : Int))) := by
  rw [M_slices_ContainsFunc_int_int_index_Gather_1, M_slices_IndexFunc_int_int_index_Gather_1]
  obtain ⟨e, g1, g2, g3⟩ := IndexFunc_l0 l v hl l 0 rfl
  rw [show ((0 : Nat) : Int) = 0 from rfl] at g1
  rw [g1]
  by_cases h : ∀ n ∈ l, 0 ≤ n ∧ n < (v.length : Int)
  · rw [g2 h, decide_eq_false (by simpa using h)]; rfl
  · obtain ⟨i, h0, rfl⟩ := g3 h
    rw [decide_eq_true h]
    simp [bindS, h0]

theorem Gather_l0 (l v : List Int) (hl : l.length ≤ 1099511627776) (hv : ∀ n ∈ l, 0 ≤ n ∧ n < (v.length : Int)) : ∀ (t : List Int) (k : Nat) (acc : List Int), l.drop k = t → acc.length ≤ k → M_index_Gather_l0 l v (k : Int) acc = some (acc ++ t.map (at' v))
  | [], k, acc, h, ha => by
    rw [M_index_Gather_l0, if_neg (drop_end h)]; simp
  | x :: t, k, acc, h, ha => by
    have h1 := drop_at h
    have hx := hv x (List.mem_of_mem_drop (by rw [h]; simp))
    rw [M_index_Gather_l0, if_pos h1.1, if_pos (by omega), h1.2.1, if_pos hx, if_pos (room8 (by simp; omega)), bindS, i64_s (by omega), Gather_l0 l v hl hv t (k + 1) _ h1.2.2 (by simp; omega)]
    simp

theorem Gather_eq (l v : List Int) (hl : l.length ≤ 1099511627776) (hr : rising l = true) (hv : ∀ n ∈ l, 0 ≤ n ∧ n < (v.length : Int)) : M_index_Gather l v = some (l.map (at' v), 0) := by
  have h1 := Gather_l0 l v hl hv l 0 [] rfl (by simp)
  rw [show ((0 : Nat) : Int) = 0 from rfl] at h1
  have hd : decide (¬ ∀ n ∈ l, 0 ≤ n ∧ n < (v.length : Int)) = false := decide_eq_false (fun h => h hv)
  rw [M_index_Gather, rises_eq l (by omega), bindS, hr, Contains_eq l v (by omega), bindS, orB, hd, if_neg (by simp), if_pos (by omega), bindS]
  simp only [Int.toNat_zero, List.replicate_zero]
  rw [h1]; simp

/-- So many places from one on, without some. -/
def leftF : Nat → Int → List Int → List Int
  | 0, _, _ => []
  | m + 1, x, [] => x :: leftF m (x + 1) []
  | m + 1, x, y :: t => if y = x then leftF m (x + 1) t else x :: leftF m (x + 1) (y :: t)

theorem Left_l0 (dim : Int) (hd : dim ≤ 4096) : ∀ (m : Nat) (x : Int) (acc rest : List Int), x + m = dim → 0 ≤ x → (acc.length : Int) ≤ x → M_index_Left_l0 dim x acc rest = some (acc ++ leftF m x rest)
  | 0, x, acc, rest, h, h0, ha => by
    rw [M_index_Left_l0, if_neg (by omega)]; simp [leftF]
  | m + 1, x, acc, [], h, h0, ha => by
    rw [M_index_Left_l0, if_pos (by omega), if_neg (by simp), bindS, if_neg (by simp), if_pos (room8 (by simp; omega)), i64_in _ (by omega), Left_l0 dim hd m (x + 1) _ [] (by omega) (by omega) (by simp; omega)]
    simp [leftF]
  | m + 1, x, acc, y :: t, h, h0, ha => by
    rw [M_index_Left_l0, if_pos (by omega), if_pos (by simp <;> omega), if_pos (by simp <;> omega), bindS, drop_at0]
    by_cases hy : y = x
    · have hc : cut' (y :: t) (some 1) none = t := by rw [cut_none _ _ (by simp; omega)]; rfl
      rw [if_pos (by simp [hy]), if_pos (by simp only [cutOk, Option.getD_some, Option.getD_none, List.length_cons]; omega), hc, i64_in _ (by omega), Left_l0 dim hd m (x + 1) acc t (by omega) (by omega) (by omega), leftF, if_pos hy]
    · rw [if_neg (by simp [hy]), if_pos (room8 (by simp; omega)), i64_in _ (by omega), Left_l0 dim hd m (x + 1) _ (y :: t) (by omega) (by omega) (by simp; omega), leftF, if_neg hy]
      simp

theorem leftF_mem : ∀ (m : Nat) (x : Int) (rest : List Int), rising rest = true → (∀ n ∈ rest, x ≤ n) → ∀ n, n ∈ leftF m x rest ↔ (x ≤ n ∧ n < x + m ∧ n ∉ rest)
  | 0, x, rest, hr, hx, n => by simp [leftF]; omega
  | m + 1, x, [], hr, hx, n => by
    have := leftF_mem m (x + 1) [] rfl (by simp) n
    simp only [leftF, List.mem_cons, this, List.not_mem_nil, not_false_eq_true, and_true]
    omega
  | m + 1, x, y :: t, hr, hx, n => by
    have hy := hx y (by simp)
    rw [leftF]
    by_cases h : y = x
    · subst h
      have := leftF_mem m (y + 1) t (rising_tail hr) (fun z hz => by have := rising_cons hr z hz; omega) n
      rw [if_pos rfl, this, List.mem_cons]
      constructor
      · rintro ⟨h1, h2, h3⟩; exact ⟨by omega, by omega, fun h => h.elim (by omega) h3⟩
      · rintro ⟨h1, h2, h3⟩; exact ⟨by have : n ≠ y := fun e => h3 (.inl e); omega, by omega, fun h => h3 (.inr h)⟩
    · have := leftF_mem m (x + 1) (y :: t) hr (fun z hz => by
        rcases List.mem_cons.1 hz with rfl | hz
        · omega
        · have := rising_cons hr z hz; omega) n
      rw [if_neg h, List.mem_cons, this]
      constructor
      · rintro (rfl | ⟨h1, h2, h3⟩)
        · refine ⟨by omega, by omega, fun hm => ?_⟩
          rcases List.mem_cons.1 hm with h' | hm
          · exact h h'.symm
          · have := rising_cons hr _ hm; omega
        · exact ⟨by omega, by omega, h3⟩
      · rintro ⟨h1, h2, h3⟩
        rcases Int.lt_or_eq_of_le h1 with h4 | h4
        · exact .inr ⟨by omega, by omega, h3⟩
        · exact .inl h4.symm

theorem leftF_rising : ∀ (m : Nat) (x : Int) (rest : List Int), rising rest = true → (∀ n ∈ rest, x ≤ n) → rising (leftF m x rest) = true
  | 0, x, rest, hr, hx => rfl
  | m + 1, x, [], hr, hx => rising_mk (leftF_rising m (x + 1) [] rfl (by simp)) fun y hy => by
    have := (leftF_mem m (x + 1) [] rfl (by simp) y).1 hy; omega
  | m + 1, x, y :: t, hr, hx => by
    have hy := hx y (by simp)
    rw [leftF]
    by_cases h : y = x
    · subst h
      rw [if_pos rfl]
      exact leftF_rising m _ t (rising_tail hr) (fun z hz => by have := rising_cons hr z hz; omega)
    · have h2 : ∀ z ∈ y :: t, x + 1 ≤ z := fun z hz => by
        rcases List.mem_cons.1 hz with rfl | hz
        · omega
        · have := rising_cons hr z hz; omega
      rw [if_neg h]
      exact rising_mk (leftF_rising m _ _ hr h2) fun z hz => by have := (leftF_mem m (x + 1) (y :: t) hr h2 z).1 hz; omega

theorem leftF_len : ∀ (m : Nat) (x : Int) (rest : List Int), rising rest = true → (∀ n ∈ rest, x ≤ n ∧ n < x + m) → (leftF m x rest).length + rest.length = m
  | 0, x, [], hr, hx => rfl
  | 0, x, y :: t, hr, hx => by have := hx y (by simp); omega
  | m + 1, x, [], hr, hx => by
    have := leftF_len m (x + 1) [] rfl (by simp)
    simp only [leftF, List.length_cons, List.length_nil] at this ⊢; omega
  | m + 1, x, y :: t, hr, hx => by
    have hy := hx y (by simp)
    rw [leftF]
    by_cases h : y = x
    · subst h
      have := leftF_len m (y + 1) t (rising_tail hr) (fun z hz => by have := rising_cons hr z hz; have := hx z (by simp [hz]); omega)
      rw [if_pos rfl, List.length_cons]; omega
    · have := leftF_len m (x + 1) (y :: t) hr (fun z hz => by
        have h3 := hx z hz
        rcases List.mem_cons.1 hz with rfl | hz
        · omega
        · have := rising_cons hr z hz; omega)
      rw [if_neg h, List.length_cons]; omega

theorem Left_eq (dim : Int) (l : List Int) (hl : l.length ≤ 4611686018427387904) (h : checkP dim l = 0) : M_index_Left dim l = some (leftF dim.toNat 0 l, 0) := by
  have h' := h
  rw [placed_iff] at h
  have hm := h.1
  simp only [meas, Bool.and_eq_true, decide_eq_true_eq] at hm
  rw [M_index_Left, Check_eq dim l hl, bindS, h', if_neg (by simp), Left_l0 dim hm.2 dim.toNat 0 [] l (by omega) (by omega) (by simp)]
  simp

/-- Numbers set at places. -/
def spreadG : List Int → List Int → List Int → List Int
  | out, n :: t, x :: u => spreadG (out.set n.toNat x) t u
  | out, _, _ => out

theorem spreadG_len : ∀ (l a out : List Int), (spreadG out l a).length = out.length
  | [], a, out => by cases a <;> simp [spreadG]
  | n :: t, [], out => by simp [spreadG]
  | n :: t, x :: u, out => by rw [spreadG, spreadG_len t u]; simp

theorem Spread_l0 (l a : List Int) (hl : l.length ≤ 4611686018427387904) (he : l.length = a.length) (D : Int) (hv : ∀ n ∈ l, 0 ≤ n ∧ n < D) : ∀ (t u : List Int) (k : Nat) (out : List Int), l.drop k = t → a.drop k = u → (out.length : Int) = D → M_index_Spread_l0 l a (k : Int) out = some (spreadG out t u)
  | [], u, k, out, h, h', ho => by
    rw [M_index_Spread_l0, if_neg (drop_end h)]; cases u <;> simp [spreadG]
  | x :: t, [], k, out, h, h', ho => by
    have := List.drop_eq_nil_iff.1 h'
    have := (drop_at h).1
    omega
  | x :: t, y :: u, k, out, h, h', ho => by
    have h1 := drop_at h
    have h2 := drop_at h'
    have hx := hv x (List.mem_of_mem_drop (by rw [h]; simp))
    rw [M_index_Spread_l0, if_pos h1.1, if_pos (by omega), if_pos (by omega), h1.2.1, if_pos (by omega), bindS, h2.2.1, i64_s (by omega), Spread_l0 l a hl he D hv t u (k + 1) _ h1.2.2 h2.2.2 (by simpa using ho)]
    rfl

theorem Spread_eq (dim : Int) (l a : List Int) (hl : l.length ≤ 4611686018427387904) (h : checkP dim l = 0) (he : l.length = a.length) : M_index_Spread dim l a = some (spreadG (List.replicate dim.toNat 0) l a, 0) := by
  have h' := h
  rw [placed_iff] at h
  have hm := h.1
  simp only [meas, Bool.and_eq_true, decide_eq_true_eq] at hm
  have h1 := Spread_l0 l a hl he dim h.2.2 l a 0 (List.replicate dim.toNat 0) rfl rfl (by simp; omega)
  rw [show ((0 : Nat) : Int) = 0 from rfl] at h1
  rw [M_index_Spread, Check_eq dim l hl, bindS, h', if_neg (by simp), if_neg (by omega), if_pos (by omega), bindS, h1, bindS]

theorem at'_set {l : List Int} {i n x : Int} (hi : 0 ≤ i) (hi' : i < l.length) (hn : 0 ≤ n) : at' (l.set i.toNat x) n = if n = i then x else at' l n := by
  unfold at'
  by_cases h : n = i
  · subst h; rw [if_pos rfl]
    have : n.toNat < l.length := by omega
    simp [this]
  · rw [if_neg h]
    have : i.toNat ≠ n.toNat := by omega
    simp [List.getElem?_set_ne this]

theorem spread_map (f : Int → Int) : ∀ (l out : List Int), (∀ n ∈ l, 0 ≤ n ∧ n < (out.length : Int)) → ∀ n, 0 ≤ n → at' (spreadG out l (l.map f)) n = if n ∈ l then f n else at' out n
  | [], out, hl, n, hn => by simp [spreadG]
  | m :: t, out, hl, n, hn => by
    have hm := hl m (by simp)
    rw [List.map_cons, spreadG, spread_map f t _ (fun z hz => by simpa using hl z (by simp [hz])) n hn, at'_set hm.1 hm.2 hn]
    by_cases h1 : n ∈ t
    · simp [h1]
    · rw [if_neg h1]
      by_cases h2 : n = m
      · subst h2; simp
      · rw [if_neg h2, if_neg (by simp [h1, h2])]

theorem spread_out : ∀ (l a out : List Int), (∀ n ∈ l, 0 ≤ n ∧ n < (out.length : Int)) → ∀ n, 0 ≤ n → n ∉ l → at' (spreadG out l a) n = at' out n
  | [], a, out, hl, n, hn, h => by cases a <;> simp [spreadG]
  | m :: t, [], out, hl, n, hn, h => by simp [spreadG]
  | m :: t, x :: u, out, hl, n, hn, h => by
    have hm := hl m (by simp)
    rw [spreadG, spread_out t u _ (fun z hz => by simpa using hl z (by simp [hz])) n hn (fun h' => h (by simp [h'])), at'_set hm.1 hm.2 hn, if_neg (fun e => h (by simp [e]))]

theorem spread_back : ∀ (l a out : List Int), rising l = true → (∀ n ∈ l, 0 ≤ n ∧ n < (out.length : Int)) → l.length = a.length → l.map (at' (spreadG out l a)) = a
  | [], [], out, hr, hl, he => rfl
  | [], x :: u, out, hr, hl, he => by simp at he
  | m :: t, [], out, hr, hl, he => by simp at he
  | m :: t, x :: u, out, hr, hl, he => by
    have hm := hl m (by simp)
    have hl' : ∀ z ∈ t, 0 ≤ z ∧ z < ((out.set m.toNat x).length : Int) := fun z hz => by simpa using hl z (by simp [hz])
    rw [List.map_cons, spreadG, spread_back t u _ (rising_tail hr) hl' (by simpa using he)]
    congr 1
    rw [spread_out t u _ hl' m hm.1 (fun h => by have := rising_cons hr m h; omega), at'_set hm.1 hm.2 hm.1, if_pos rfl]

theorem at'_rep {n k : Nat} {i : Int} : at' (List.replicate n (0 : Int)) i = 0 := by
  unfold at'
  by_cases h : i.toNat < n
  · simp [h]
  · simp only [List.getD_eq_getElem?_getD]; rw [List.getElem?_eq_none (by simp; omega)]; rfl

theorem Same2_l0 (a b : List Int) (hl : a.length = b.length) (hb : a.length ≤ 4611686018427387904) : ∀ (t u : List Int) (k : Nat), a.drop k = t → b.drop k = u → M_thrumref02_Same_l0 a b (k : Int) = some (if t = u then .inr () else .inl false)
  | [], u, k, h1, h2 => by
    have := List.drop_eq_nil_iff.1 h1
    have h3 : u = [] := by rw [← h2]; exact List.drop_eq_nil_of_le (by omega)
    rw [M_thrumref02_Same_l0, if_neg (drop_end h1), h3]; rfl
  | x :: t, [], k, h1, h2 => by
    have := List.drop_eq_nil_iff.1 h2
    have := (drop_at h1).1
    omega
  | x :: t, y :: u, k, h1, h2 => by
    have g1 := drop_at h1
    have g2 := drop_at h2
    rw [M_thrumref02_Same_l0, if_pos g1.1, if_pos (by omega), if_pos (by omega), g1.2.1, g2.2.1, i64_s (by omega), Same2_l0 a b hl hb t u (k + 1) g1.2.2 g2.2.2]
    by_cases hxy : x = y
    · subst hxy; simp
    · simp [hxy]

theorem Same2_eq (a b : List Int) (hb : a.length ≤ 4611686018427387904) : M_thrumref02_Same a b = some (decide (a = b)) := by
  rw [M_thrumref02_Same]
  by_cases hl : a.length = b.length
  · have := Same2_l0 a b hl hb a b 0 rfl rfl
    rw [show ((0 : Nat) : Int) = 0 from rfl] at this
    rw [if_neg (by omega), this]
    by_cases h : a = b
    · simp [h]
    · simp [h]
  · rw [if_pos (by omega), decide_eq_false (fun h => hl (by rw [h]))]

end Go.Proofs.Ythkofkhggdgcpaa.Abs
