/- Codes and places read, plainly; what the document's functions come to. Conditions: texts that memory can hold, of bytes. -/
import Derived.Test.YtaghpancpfpnhaaP6a
namespace Go.Proofs.Ytaghpancpfpnhaa.Abs
open Go Go.RowKit Go.IntWalk
set_option linter.unusedVariables false

def U8s (b : List Int) : Prop := ∀ x ∈ b, 0 ≤ x ∧ x ≤ 255

theorem and127 {x : Int} (h0 : 0 ≤ x) (h1 : x ≤ 255) : bAnd .u8 x 127 = x % 128 := by
  have h : ∀ i : Fin 256, bAnd .u8 ((i.val : Nat) : Int) 127 = ((i.val : Nat) : Int) % 128 := by decide +kernel
  have := h ⟨x.toNat, by omega⟩
  simpa [Int.toNat_of_nonneg h0] using this

/-- A code read on, from a place and what was read. -/
def getGo (at0 : Int) : List Int → Nat → Int → Int × Int × Int
  | [], _, _ => (0, 0, 5)
  | x :: c, k, n =>
    if (k = 9 ∧ 1 < x) ∨ (x = 0 ∧ 0 < k) then (0, 0, 6)
    else if x < 128 then (bOr .u64 n (sShl .u64 (x % 128) (7 * (k : Int))), IntKind.i64.wrap (at0 + k) + 1, 0)
    else getGo at0 c (k + 1) (bOr .u64 n (sShl .u64 (x % 128) (7 * (k : Int))))

/-- A code read. -/
def getP (b : List Int) (at0 : Int) : Int × Int × Int := if at0 < 0 then (0, 0, 1) else getGo at0 (b.drop at0.toNat) 0 0

theorem leb_Get_l0 (at0 : Int) (y : List Int) (h0 : 0 ≤ at0) (ha : at0 + y.length ≤ 9223372036854775806 ∨ y = []) (hu : U8s y) : ∀ (c : List Int) (k : Nat) (n : Int), k ≤ 9 → y.drop k = c →
    M_leb_Get_l0 at0 y (k : Int) n = some (if getGo at0 c k n = (0, 0, 5) ∧ (∀ x ∈ c, 128 ≤ x) then .inr () else .inl (getGo at0 c k n)) := by
  intro c
  induction c with
  | nil =>
    intro k n hk h
    rw [M_leb_Get_l0, if_neg (drop_end h)]; simp [getGo]
  | cons x c ih =>
    intro k n hk h
    have h1 := drop_at h
    have hx : 0 ≤ x ∧ x ≤ 255 := hu x (List.mem_of_mem_drop (by rw [h]; simp))
    have ha' : at0 + y.length ≤ 9223372036854775806 := by
      rcases ha with ha | rfl
      · exact ha
      · simp at h
    rw [M_leb_Get_l0, if_pos h1.1, if_pos (by omega), h1.2.1]
    simp only [orB, andB]
    have e1 : IntKind.i64.wrap (7 * (k : Int)) = 7 * k := i64_in _ (by omega)
    have e2 : IntKind.i64.wrap (at0 + (k : Int)) = at0 + k := i64_in _ (by omega)
    have e3 : IntKind.u64.wrap (bAnd .u8 x 127) = x % 128 := by rw [and127 hx.1 hx.2, u64_in _ (by omega)]
    by_cases hb : (k = 9 ∧ 1 < x) ∨ (x = 0 ∧ 0 < k)
    · rw [if_pos (by simp; omega), getGo, if_pos hb]
      simp
    · rw [if_neg (by simp; omega), e1, if_pos (by omega), e3, bindS, getGo, if_neg hb]
      by_cases hx1 : x < 128
      · rw [if_pos hx1, if_pos hx1, e2]
        rw [i64_in (at0 + k + 1) (by omega), if_neg (by simp)]
      · rw [if_neg hx1, if_neg hx1, i64_s (by omega), ih (k + 1) _ (by omega) h1.2.2]
        simp only [List.mem_cons, forall_eq_or_imp, show 128 ≤ x by omega, true_and]

theorem cut_none {α : Type} (l : List α) (a : Int) (h : a ≤ l.length) : cut' l (some a) none = l.drop a.toNat := by
  simp [cut']

theorem leb_Get_eq (b : List Int) (at0 : Int) (hb : b.length ≤ 4611686018427387904) (hu : U8s b) (hat : at0 ≤ 9223372036854775807) : M_leb_Get b at0 = some (getP b at0) := by
  rw [M_leb_Get, getP]
  by_cases h0 : at0 < 0
  · rw [if_pos h0, if_pos h0]
  rw [if_neg h0, if_neg h0]
  have hmin : (if (b.length : Int) < at0 then (b.length : Int) else at0).toNat = min at0.toNat b.length := by
    split <;> omega
  have hd : cut' b (some (if (b.length : Int) < at0 then (b.length : Int) else at0)) none = b.drop at0.toNat := by
    rw [cut_none _ _ (by split <;> omega), hmin]
    rcases Nat.le_total at0.toNat b.length with h | h
    · rw [Nat.min_eq_left h]
    · rw [Nat.min_eq_right h, List.drop_eq_nil_of_le (Nat.le_refl _), List.drop_eq_nil_of_le h]
  rw [if_pos (by simp only [cutOk, Option.getD_some, Option.getD_none]; split <;> omega), hd, bindS]
  have hl := leb_Get_l0 at0 (b.drop at0.toNat) (by omega) (by
    rcases Nat.lt_or_ge at0.toNat b.length with h | h
    · left; simp only [List.length_drop]; omega
    · right; exact List.drop_eq_nil_of_le h) (fun x hx => hu x (List.mem_of_mem_drop hx)) (b.drop at0.toNat) 0 0 (by omega) rfl
  rw [show ((0 : Nat) : Int) = 0 from rfl] at hl
  rw [hl]
  by_cases hc : getGo at0 (b.drop at0.toNat) 0 0 = (0, 0, 5) ∧ ∀ x ∈ b.drop at0.toNat, 128 ≤ x
  · rw [if_pos hc, hc.1]; rfl
  · rw [if_neg hc]; rfl

theorem getGo_err (at0 : Int) : ∀ (c : List Int) (k : Nat) (n : Int), (getGo at0 c k n).2.2 = 0 ∨ getGo at0 c k n = (0, 0, 5) ∨ getGo at0 c k n = (0, 0, 6)
  | [], k, n => by simp [getGo]
  | x :: c, k, n => by
    rw [getGo]
    split
    · simp
    · split
      · simp
      · exact getGo_err at0 c _ _

theorem refGet_l0 (b : List Int) (at0 : Int) (h0 : 0 ≤ at0) (hb : b.length ≤ 4611686018427387904) (hu : U8s b) (hat : at0 ≤ 9223372036854775807) : ∀ (j k : Nat) (n : Int), k + j = 10 → 0 < j →
    M_thrumref03_Get_l0 b at0 (k : Int) n = some (.inl (getGo at0 ((b.drop at0.toNat).drop k) k n)) := by
  intro j
  induction j with
  | zero => intro k n _ h; omega
  | succ j ih =>
    intro k n hk _
    rw [M_thrumref03_Get_l0, if_pos (by omega), orB]
    by_cases hlt : at0 + k < b.length
    · have e0 : IntKind.i64.wrap ((b.length : Int) - at0) = b.length - at0 := i64_in _ (by omega)
      have e2 : IntKind.i64.wrap (at0 + (k : Int)) = at0 + k := i64_in _ (by omega)
      have hlt' : at0.toNat + k < b.length := by omega
      have hd : (b.drop at0.toNat).drop k = b[at0.toNat + k] :: (b.drop at0.toNat).drop (k + 1) := by
        rw [List.drop_drop, List.drop_drop, List.drop_eq_getElem_cons hlt']; rfl
      have hx := hu b[at0.toNat + k] (List.getElem_mem hlt')
      have ex : at' b (at0 + k) = b[at0.toNat + k] := by
        have : at0 + (k : Int) = ((at0.toNat + k : Nat) : Int) := by omega
        rw [this, at'_nat]; simp [hlt']
      rw [e0, if_neg (by simp; omega), e2, if_pos (by omega), ex, hd]
      generalize b[at0.toNat + k] = x at hx
      have e1 : IntKind.i64.wrap (7 * (k : Int)) = 7 * k := i64_in _ (by omega)
      have e3 : IntKind.u64.wrap (Int.tmod x 128) = x % 128 := by rw [rem_in _ _ hx.1, u64_in _ (by omega)]
      simp only [andB]
      rw [getGo]
      by_cases h9 : k = 9 ∧ 1 < x
      · rw [if_pos (by simp; omega), if_pos (.inl h9)]
      · rw [if_neg (by simp; omega), e3, bindS, e1, if_pos (by omega)]
        by_cases hx1 : x < 128
        · rw [if_pos hx1]
          by_cases hz : x = 0 ∧ 0 < k
          · rw [if_pos (by simp; omega), if_pos (.inr hz)]
          · rw [if_neg (by simp; omega), if_neg (by omega), if_pos hx1, i64_in (at0 + k + 1) (by omega), e2]
        · have : 0 < j := by omega
          rw [if_neg hx1, if_neg (by omega), if_neg hx1, i64_s (by omega), ih (k + 1) _ (by omega) this]
    · have hd : (b.drop at0.toNat).drop k = [] := by rw [List.drop_drop]; exact List.drop_eq_nil_of_le (by omega)
      rw [hd, getGo]
      by_cases h1 : at0 ≥ b.length
      · rw [if_pos (by simp [h1])]
      · have e0 : IntKind.i64.wrap ((b.length : Int) - at0) = b.length - at0 := i64_in _ (by omega)
        rw [e0, if_pos (by simp; omega)]

theorem refGet_eq (b : List Int) (at0 : Int) (hb : b.length ≤ 4611686018427387904) (hu : U8s b) (hat : at0 ≤ 9223372036854775807) : M_thrumref03_Get b at0 = some (getP b at0) := by
  rw [M_thrumref03_Get, getP]
  by_cases h0 : at0 < 0
  · rw [if_pos h0, if_pos h0]
  rw [if_neg h0, if_neg h0]
  have hl := refGet_l0 b at0 (by omega) hb hu hat 10 0 0 rfl (by omega)
  rw [show ((0 : Nat) : Int) = 0 from rfl] at hl
  rw [hl]; rfl

end Go.Proofs.Ytaghpancpfpnhaa.Abs
