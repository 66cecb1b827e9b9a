/- Places read, plainly; lists held against one another; the statement IndexWrites. Conditions: none but that numbers are of their kinds. -/
import Derived.Test.YtaghpancpfpnhaaP6b
namespace Go.Proofs.Ytaghpancpfpnhaa.Abs
open Go Go.RowKit Go.IntWalk
set_option linter.unusedVariables false

theorem getGo_at (at0 : Int) (h0 : 0 ≤ at0) (B : Int) (hB : B ≤ 9223372036854775806) (hB0 : 0 ≤ B) : ∀ (c : List Int) (k : Nat) (n : Int), at0 + k + c.length ≤ B ∨ c = [] → 0 ≤ (getGo at0 c k n).2.1 ∧ (getGo at0 c k n).2.1 ≤ B
  | [], k, n, _ => by simp [getGo, hB0]
  | x :: c, k, n, h => by
    simp only [List.length_cons, reduceCtorEq, or_false] at h
    rw [getGo]
    split
    · simp [hB0]
    · split
      · simp only
        rw [i64_in _ (by omega)]; omega
      · exact getGo_at at0 h0 B hB hB0 c (k + 1) _ (.inl (by omega))

theorem getP_at (b : List Int) (at0 : Int) (hb : b.length ≤ 4611686018427387904) : 0 ≤ (getP b at0).2.1 ∧ (getP b at0).2.1 ≤ b.length := by
  unfold getP
  split
  · simp
  · rename_i h
    refine getGo_at at0 (by omega) b.length (by omega) (by omega) _ 0 0 ?_
    rcases Nat.lt_or_ge at0.toNat b.length with h1 | h1
    · left; simp only [List.length_drop]; omega
    · right; exact List.drop_eq_nil_of_le h1

theorem getGo_u64 (at0 : Int) : ∀ (c : List Int) (k : Nat) (n : Int), 0 ≤ (getGo at0 c k n).1 ∧ (getGo at0 c k n).1 ≤ 18446744073709551615
  | [], k, n => by simp [getGo]
  | x :: c, k, n => by
    rw [getGo]
    split
    · simp
    · split
      · exact u64_ge _
      · exact getGo_u64 at0 c (k + 1) _
theorem getP_u64 (b : List Int) (at0 : Int) : 0 ≤ (getP b at0).1 ∧ (getP b at0).1 ≤ 18446744073709551615 := by
  unfold getP
  split
  · simp
  · exact getGo_u64 _ _ _ _

/-- So many places read on: from where, behind which place, and those that were read. -/
def iget (dim : Int) (b : List Int) : Nat → Int → Int → List Int → List Int × Int × Int
  | 0, at0, _, acc => (acc, at0, 0)
  | m + 1, at0, last, acc =>
    if (getP b at0).2.2 ≠ 0 then ([], 0, (getP b at0).2.2)
    else if dim - 1 - last ≤ (getP b at0).1 then ([], 0, 6)
    else iget dim b m (getP b at0).2.1 (last + 1 + (getP b at0).1) (acc ++ [last + 1 + (getP b at0).1])

/-- What index.Get answers. -/
def igetP (dim : Int) (b : List Int) (at0 : Int) : List Int × Int × Int :=
  if meas dim = false then ([], 0, 1)
  else if (getP b at0).2.2 ≠ 0 then ([], 0, (getP b at0).2.2)
  else if dim < (getP b at0).1 then ([], 0, 6)
  else iget dim b (getP b at0).1.toNat (getP b at0).2.1 (-1) []

theorem iGet_l0 (dim : Int) (hd : dim ≤ 4096) (b : List Int) (hb : b.length ≤ 4611686018427387904) (hu : U8s b) (r2 : Int × Int × Int) (hr : r2.1 ≤ 4096) : ∀ (j i : Nat) (last : Int) (acc : List Int) (at0 : Int), (i : Int) + j = r2.1 → acc.length ≤ i → at0 ≤ 9223372036854775807 → -1 ≤ last → last < dim →
    ∃ p q, M_index_Get_l0 dim b r2 (i : Int) last acc 0 at0 = some ((iget dim b j at0 last acc).2.2, p, q) ∧ ((iget dim b j at0 last acc).2.2 = 0 → p = (iget dim b j at0 last acc).2.1 ∧ q = (iget dim b j at0 last acc).1) ∧ ((iget dim b j at0 last acc).2.2 ≠ 0 → iget dim b j at0 last acc = ([], 0, (iget dim b j at0 last acc).2.2)) := by
  intro j
  induction j with
  | zero =>
    intro i last acc at0 hi ha hat hl1 hl2
    rw [M_index_Get_l0, andB, if_neg (by simp; omega)]
    exact ⟨at0, acc, rfl, fun _ => ⟨rfl, rfl⟩, fun h => absurd rfl h⟩
  | succ j ih =>
    intro i last acc at0 hi ha hat hl1 hl2
    rw [M_index_Get_l0, andB, if_pos (by simp; omega), leb_Get_eq b at0 hb hu hat, bindS]
    by_cases he : (getP b at0).2.2 ≠ 0
    · rw [if_pos he]
      simp only [iget, if_pos he]
      exact ⟨_, _, rfl, fun h => absurd h he, fun _ => trivial⟩
    · have e1 : IntKind.u64.wrap (IntKind.i64.wrap (IntKind.i64.wrap (dim - 1) - last)) = dim - 1 - last := by
        rw [i64_in (dim - 1) (by omega), i64_in _ (by omega), u64_in _ (by omega)]
      rw [if_neg he, e1]
      have h1 := getP_u64 b at0
      have h2 := getP_at b at0 hb
      by_cases hf : dim - 1 - last ≤ (getP b at0).1
      · rw [if_pos hf]
        simp only [iget, if_neg he, if_pos hf]
        exact ⟨_, _, rfl, fun h => absurd h (by decide), fun _ => trivial⟩
      · have e2 : IntKind.i64.wrap (last + IntKind.i64.wrap (1 + IntKind.i64.wrap (getP b at0).1)) = last + 1 + (getP b at0).1 := by
          rw [i64_in (getP b at0).1 (by omega), i64_in (1 + (getP b at0).1) (by omega), i64_in _ (by omega)]; omega
        rw [if_neg hf, e2, bindS, if_pos (room8 (by simp; omega)), bindS, u64_s (by omega)]
        simp only [iget, if_neg he, if_neg hf]
        have he' : (getP b at0).2.2 = 0 := by simpa using he
        rw [he']
        exact ih (i + 1) _ _ _ (by omega) (by simp; omega) (by omega) (by omega) (by omega)

theorem iGet_eq (dim : Int) (b : List Int) (at0 : Int) (hb : b.length ≤ 4611686018427387904) (hu : U8s b) (hat : at0 ≤ 9223372036854775807) : M_index_Get dim b at0 = some (igetP dim b at0) := by
  rw [M_index_Get, measure_eq, bindS, igetP]
  cases hm : meas dim with
  | false => rfl
  | true =>
    have hm' := hm
    simp only [meas, Bool.and_eq_true, decide_eq_true_eq] at hm'
    rw [if_neg (by simp), if_neg (by simp), leb_Get_eq b at0 hb hu hat, bindS, andB, u64_in dim (by omega)]
    have h1 := getP_u64 b at0
    have h2 := getP_at b at0 hb
    by_cases he : (getP b at0).2.2 ≠ 0
    · rw [if_neg (by simp [he]), bindS, if_pos he, M_index_Get_l0, andB, if_neg (by simp [he]), bindS, if_pos he]
    · have he' : (getP b at0).2.2 = 0 := by simpa using he
      rw [if_neg he, he']
      by_cases hf : dim < (getP b at0).1
      · rw [if_pos (by simp; omega), bindS, if_pos hf, M_index_Get_l0, andB, if_neg (by simp), bindS, if_pos (by simp)]
      · rw [if_neg (by simp; omega), bindS, if_neg hf]
        obtain ⟨p, q, g1, g2, g3⟩ := iGet_l0 dim hm'.2 b hb hu (getP b at0) (by omega) (getP b at0).1.toNat 0 (-1) [] (getP b at0).2.1 (by omega) (by simp) (by omega) (by omega) (by omega)
        rw [show ((0 : Nat) : Int) = 0 from rfl] at g1
        rw [g1, bindS]
        by_cases hz : (iget dim b (getP b at0).1.toNat (getP b at0).2.1 (-1) []).2.2 = 0
        · rw [if_neg (by simpa using hz)]
          obtain ⟨rfl, rfl⟩ := g2 hz
          generalize iget dim b (getP b at0).1.toNat (getP b at0).2.1 (-1) [] = R at hz
          obtain ⟨x, y, z⟩ := R
          simp only at hz; subst hz; rfl
        · rw [if_pos hz]
          exact congrArg some (g3 hz).symm

theorem refGet6_l0 (dim : Int) (hd : dim ≤ 4096) (b : List Int) (hb : b.length ≤ 4611686018427387904) (hu : U8s b) (r2 : Int × Int × Int) (hr : r2.1 ≤ 4096) : ∀ (j i : Nat) (last : Int) (acc : List Int) (at0 : Int), (i : Int) + j = r2.1 → acc.length ≤ i → at0 ≤ 9223372036854775807 → -1 ≤ last → last < dim →
    ∃ e, M_thrumref06_Get_l0 dim b r2 (i : Int) last acc at0 = some e ∧ (match e with | .inl r => r = iget dim b j at0 last acc | .inr v => (v.1, v.2, 0) = iget dim b j at0 last acc) := by
  intro j
  induction j with
  | zero =>
    intro i last acc at0 hi ha hat hl1 hl2
    rw [M_thrumref06_Get_l0, if_neg (by omega)]
    exact ⟨_, rfl, rfl⟩
  | succ j ih =>
    intro i last acc at0 hi ha hat hl1 hl2
    rw [M_thrumref06_Get_l0, if_pos (by omega), refGet_eq b at0 hb hu hat, bindS]
    simp only [iget]
    by_cases he : (getP b at0).2.2 ≠ 0
    · rw [if_pos he, if_pos he]
      exact ⟨_, rfl, rfl⟩
    · have e1 : IntKind.u64.wrap (IntKind.i64.wrap (IntKind.i64.wrap (dim - last) - 1)) = dim - 1 - last := by
        rw [i64_in (dim - last) (by omega), i64_in _ (by omega), u64_in _ (by omega)]; omega
      rw [if_neg he, if_neg he, e1]
      have h1 := getP_u64 b at0
      have h2 := getP_at b at0 hb
      by_cases hf : dim - 1 - last ≤ (getP b at0).1
      · rw [if_pos hf, if_pos hf]
        exact ⟨_, rfl, rfl⟩
      · have e2 : IntKind.i64.wrap (last + IntKind.i64.wrap (IntKind.i64.wrap (getP b at0).1 + 1)) = last + 1 + (getP b at0).1 := by
          rw [i64_in (getP b at0).1 (by omega), i64_in ((getP b at0).1 + 1) (by omega), i64_in _ (by omega)]; omega
        rw [if_neg hf, if_neg hf, e2, bindS, if_pos (room8 (by simp; omega)), bindS, u64_s (by omega)]
        exact ih (i + 1) _ _ _ (by omega) (by simp; omega) (by omega) (by omega) (by omega)

theorem refGet6_eq (dim : Int) (b : List Int) (at0 : Int) (hb : b.length ≤ 4611686018427387904) (hu : U8s b) (hat : at0 ≤ 9223372036854775807) : M_thrumref06_Get dim b at0 = some (igetP dim b at0) := by
  rw [M_thrumref06_Get, orB, igetP]
  cases hm : meas dim with
  | false =>
    have hm' : ¬ (meas dim = true) := by simp [hm]
    simp only [meas, Bool.and_eq_true, decide_eq_true_eq] at hm'
    rw [if_pos (by simp; omega)]; rfl
  | true =>
    have hm' := hm
    simp only [meas, Bool.and_eq_true, decide_eq_true_eq] at hm'
    rw [if_neg (by simp; omega), if_neg (by simp), refGet_eq b at0 hb hu hat, bindS, u64_in dim (by omega)]
    have h1 := getP_u64 b at0
    have h2 := getP_at b at0 hb
    by_cases he : (getP b at0).2.2 ≠ 0
    · rw [if_pos he, if_pos he]
    · rw [if_neg he, if_neg he]
      by_cases hf : dim < (getP b at0).1
      · rw [if_pos hf, if_pos hf]
      · rw [if_neg hf, if_neg hf]
        obtain ⟨e, g1, g2⟩ := refGet6_l0 dim hm'.2 b hb hu (getP b at0) (by omega) (getP b at0).1.toNat 0 (-1) [] (getP b at0).2.1 (by omega) (by simp) (by omega) (by omega) (by omega)
        rw [show ((0 : Nat) : Int) = 0 from rfl] at g1
        rw [g1, bindS]
        cases e with
        | inl r => exact congrArg some g2
        | inr v => exact congrArg some g2

theorem strB_list (l : List Int) : (strB l).toList = l.map fun x => UInt8.ofNat x.toNat := by
  rw [ByteArray.toList_eq, strB, strOf]
  simp only [List.map_map]
  rfl

theorem u8_map_inj : ∀ {a b : List Int}, U8s a → U8s b → a.map (fun x => UInt8.ofNat x.toNat) = b.map (fun x => UInt8.ofNat x.toNat) → a = b
  | [], [], _, _, _ => rfl
  | [], y :: b, _, _, h => by simp at h
  | x :: a, [], _, _, h => by simp at h
  | x :: a, y :: b, ha, hb, h => by
    simp only [List.map_cons, List.cons.injEq] at h
    have hx := ha x (by simp)
    have hy := hb y (by simp)
    have h3 := congrArg UInt8.toNat h.1
    simp only [UInt8.toNat_ofNat'] at h3
    rw [u8_map_inj (fun z hz => ha z (by simp [hz])) (fun z hz => hb z (by simp [hz])) h.2]
    congr 1
    omega

theorem Same_eq (a b : List Int) (ha : U8s a) (hb : U8s b) : M_thrumref03_Same a b = some (decide (a = b)) := by
  rw [M_thrumref03_Same]
  congr 1
  by_cases h : a = b
  · subst h; simp
  · rw [decide_eq_false h]
    rw [beq_eq_false_iff_ne]
    rw [strB_list, strB_list]
    exact fun e => h (u8_map_inj ha hb e)
end Go.Proofs.Ytaghpancpfpnhaa.Abs
