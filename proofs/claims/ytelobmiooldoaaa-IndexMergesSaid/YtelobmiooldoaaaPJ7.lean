/- Plain facts: lists together rise, have each number of each list, and none else. Conditions: none. -/
import Derived.Test.YtelobmiooldoaaaPJ5
namespace Go.Proofs.Ytelobmiooldoaaa.Abs
open Go Go.RowKit Go.IntWalk
set_option linter.unusedVariables false
set_option linter.unusedSimpArgs false
set_option maxRecDepth 100000

/-- The numbers that a map was asked to hold. -/
def keysM (l : List (Int × Bool)) : List Int := l.map Prod.fst
theorem keysM_ins : ∀ (l : List (Int × Bool)) (n : Int) (b : Bool), keysM (insM l n b) = if n ∈ keysM l then keysM l else keysM l ++ [n]
  | [], n, b => by simp [keysM, insM]
  | e :: r, n, b => by
    have ih := keysM_ins r n b
    unfold keysM at ih ⊢
    unfold insM
    by_cases h : e.1 = n
    · rw [if_pos h, if_pos (by simp [h])]
      simp [h]
    · rw [if_neg h]
      simp only [List.map_cons, List.mem_cons]
      rw [ih]
      by_cases hm : n ∈ r.map Prod.fst
      · rw [if_pos hm, if_pos (.inr hm)]
      · rw [if_neg hm, if_neg (by rintro (h' | h'); exact h h'.symm; exact hm h')]; rfl
theorem keysM_nodup {l : List (Int × Bool)} (n : Int) (b : Bool) (h : (keysM l).Nodup) : (keysM (insM l n b)).Nodup := by
  rw [keysM_ins]
  split
  · exact h
  · rename_i hn
    rw [List.nodup_append]
    refine ⟨h, by simp, fun a ha c hc => ?_⟩
    simp only [List.mem_singleton] at hc; subst hc
    exact fun e => hn (e ▸ ha)
theorem keysM_mem (l : List (Int × Bool)) (n m : Int) (b : Bool) : m ∈ keysM (insM l n b) ↔ m ∈ keysM l ∨ m = n := by
  rw [keysM_ins]
  split
  · rename_i hn
    constructor
    · exact .inl
    · rintro (h | rfl)
      · exact h
      · exact hn
  · rw [List.mem_append, List.mem_singleton]

theorem IM_l1 (L : List (List Int)) (M : List Int) (hM : rising M = true) (hml : M.length ≤ 1099511627776) (x0 : Int) (x1 : List (List Int)) (y4 : Int) (hl : (at' L x0).length ≤ 4611686018427387904) (hin : ∀ n ∈ at' L x0, n ∈ M) :
    ∀ (t : List Int) (k : Nat) (m : List (Int × Bool)), (at' L x0).drop k = t → (keysM m).Nodup → ∃ m', M_thrumlaw06_IndexMerges_l1 L true M x0 x1 y4 (k : Int) m = some (.inr m') ∧ (keysM m').Nodup ∧ ∀ n, n ∈ keysM m' ↔ n ∈ keysM m ∨ n ∈ t
  | [], k, m, h, hn => ⟨m, by rw [M_thrumlaw06_IndexMerges_l1, if_neg (drop_end h)], hn, fun n => by simp⟩
  | x :: t, k, m, h, hn => by
    obtain ⟨h1, h2, h3⟩ := drop_at h
    have hx : x ∈ at' L x0 := by
      have : x ∈ (at' L x0).drop k := by rw [h]; simp
      exact List.mem_of_mem_drop this
    obtain ⟨m', g1, g2, g3⟩ := IM_l1 L M hM hml x0 x1 y4 hl hin t (k + 1) (insM m x true) h3 (keysM_nodup x true hn)
    refine ⟨m', ?_, g2, fun n => ?_⟩
    · rw [M_thrumlaw06_IndexMerges_l1, if_pos h1, if_pos ⟨by omega, h1⟩, h2, Has_eq M x hml hM, bindS, hasP_mem hM (hin x hx), if_neg (by simp), i64_s (by omega), g1]
    · rw [g3, keysM_mem, List.mem_cons]
      constructor
      · rintro ((h | h) | h)
        · exact .inl h
        · exact .inr (.inl h)
        · exact .inr (.inr h)
      · rintro (h | h | h)
        · exact .inl (.inl h)
        · exact .inl (.inr h)
        · exact .inr h

theorem IM_l0 (L : List (List Int)) (M : List Int) (hM : rising M = true) (hml : M.length ≤ 1099511627776) (hL : L.length ≤ 1000) (hl : ∀ x ∈ L, x.length ≤ 4611686018427387904 ∧ ∀ n ∈ x, n ∈ M) :
    ∀ (t : List (List Int)) (k : Nat) (B : List (List Int)) (m : List (Int × Bool)), L.drop k = t → k + t.length = L.length → B.length = k → (∀ x ∈ B, x ∈ L) → (∀ j, j < k → L.getD (L.length - 1 - j) [] ∈ B) → (keysM m).Nodup →
    ∃ B' m', M_thrumlaw06_IndexMerges_l0 L true M (k : Int) B m = some (.inr (B', m')) ∧ (keysM m').Nodup ∧ (∀ n, n ∈ keysM m' ↔ n ∈ keysM m ∨ n ∈ t.flatten) ∧ B'.length = L.length ∧ (∀ x ∈ B', x ∈ L) ∧ (∀ j, j < L.length → L.getD (L.length - 1 - j) [] ∈ B')
  | [], k, B, m, h, hkL, hB, h1, h2, hn => by
    simp only [List.length_nil] at hkL
    exact ⟨B, m, by rw [M_thrumlaw06_IndexMerges_l0, if_neg (drop_end h)], hn, fun n => by simp, by omega, h1, fun j hj => h2 j (by omega)⟩
  | x :: t, k, B, m, h, hkL, hB, h1, h2, hn => by
    simp only [List.length_cons] at hkL
    obtain ⟨g1, g2, g3⟩ := drop_at h
    have hxL : x ∈ L := by
      have : x ∈ L.drop k := by rw [h]; simp
      exact List.mem_of_mem_drop this
    obtain ⟨hx1, hx2⟩ := hl x hxL
    have e4 : IntKind.i64.wrap (IntKind.i64.wrap ((L.length : Int) - 1) - (k : Int)) = ((L.length - 1 - k : Nat) : Int) := by
      rw [i64_in ((L.length : Int) - 1) (by omega), i64_in _ (by omega)]; omega
    have hat : at' L ((L.length - 1 - k : Nat) : Int) = L.getD (L.length - 1 - k) [] := by rw [at'_nat]; rfl
    have hq : L.length - 1 - k < L.length := by omega
    have hmem : L.getD (L.length - 1 - k) [] ∈ L := by
      rw [List.getD_eq_getElem?_getD, List.getElem?_eq_getElem hq]; exact List.getElem_mem hq
    obtain ⟨m1, f1, f2, f3⟩ := IM_l1 L M hM hml (k : Int) B ((L.length - 1 - k : Nat) : Int) (by rw [g2]; exact hx1) (by rw [g2]; exact hx2) (at' L (k : Int)) 0 m rfl hn
    rw [show ((0 : Nat) : Int) = 0 from rfl] at f1
    obtain ⟨B', m', a1, a2, a3, a4, a5, a6⟩ := IM_l0 L M hM hml hL hl t (k + 1) (B ++ [L.getD (L.length - 1 - k) []]) m1 g3 (by omega) (by simp [hB])
      (fun y hy => by
        rcases List.mem_append.1 hy with h | h
        · exact h1 y h
        · simp only [List.mem_singleton] at h; rw [h]; exact hmem)
      (fun j hj => by
        by_cases hjk : j = k
        · subst hjk; simp
        · exact List.mem_append_left _ (h2 j (by omega))) f2
    refine ⟨B', m', ?_, a2, fun n => ?_, a4, a5, a6⟩
    · rw [M_thrumlaw06_IndexMerges_l0, if_pos g1, if_pos ⟨by omega, g1⟩, e4, bindS, if_pos (by omega), hat, if_pos (room_of (by omega) (by simp; omega)), f1, bindS]
      simp only
      rw [i64_s (by omega), a1]
    · rw [a3, f3, g2, List.flatten_cons, List.mem_append]
      constructor
      · rintro ((h | h) | h)
        · exact .inl h
        · exact .inr (.inl h)
        · exact .inr (.inr h)
      · rintro (h | h | h)
        · exact .inl (.inl h)
        · exact .inl (.inr h)
        · exact .inr h

theorem nodup_len : ∀ {a b : List Int}, a.Nodup → (∀ n ∈ a, n ∈ b) → a.length ≤ b.length
  | [], b, _, _ => by simp
  | x :: a, b, h, hm => by
    rw [List.nodup_cons] at h
    have hx := hm x (by simp)
    have h2 := nodup_len (a := a) (b := b.erase x) h.2 (fun n hn => by
      have hne : n ≠ x := fun e => h.1 (e ▸ hn)
      exact (List.mem_erase_of_ne hne).2 (hm n (by simp [hn])))
    rw [List.length_erase_of_mem hx] at h2
    have : 0 < b.length := List.length_pos_of_mem hx
    simp only [List.length_cons]; omega
theorem rising_nodup {l : List Int} (h : rising l = true) : l.Nodup := (rising_iff.1 h).imp fun h e => by omega

theorem IndexMerges_true (L : List (List Int)) (hL : L.length ≤ 140737488355328) (hLl : ∀ a ∈ L, a.length ≤ 140737488355328) : M_thrumlaw06_IndexMerges L = some true := by
  obtain ⟨b, hb1, hb2⟩ := few_eq L (by omega) hLl
  rw [M_thrumlaw06_IndexMerges, live6_eq, bindS, if_neg (by simp), hb1, bindS]
  cases b with
  | false => rw [if_pos rfl]
  | true =>
  rw [if_neg (by simp)]
  obtain ⟨hb3, hb4⟩ := hb2 rfl
  obtain ⟨m1, m2⟩ := mergeP_facts L.flatten
  have hlen : (mergeP L.flatten).length ≤ L.flatten.length := nodup_len (rising_nodup m1) (fun n hn => (m2 n).1 hn)
  obtain ⟨B, m, a1, a2, a3, a4, a5, a6⟩ := IM_l0 L (mergeP L.flatten) m1 (by omega) (by omega) (fun x hx => ⟨by have := hLl x hx; omega, fun n hn => (m2 n).2 (List.mem_flatten.2 ⟨x, hx, hn⟩)⟩) L 0 [] [] rfl (by simp) rfl (by simp) (by simp) (by simp [keysM])
  rw [show ((0 : Nat) : Int) = 0 from rfl] at a1
  rw [Merge_eq L (by omega) (by omega), bindS, a1, bindS]
  simp only
  -- what is behind
  have hkeys : m.length = (mergeP L.flatten).length := by
    have e : m.length = (keysM m).length := by simp [keysM]
    rw [e]
    refine Nat.le_antisymm (nodup_len a2 fun n hn => ?_) (nodup_len (rising_nodup m1) fun n hn => ?_)
    · have := (a3 n).1 hn
      simp only [keysM, List.map_nil, List.not_mem_nil, false_or] at this
      exact (m2 n).2 this
    · exact (a3 n).2 (.inr ((m2 n).1 hn))
  have fin : ∀ B2 : List (List Int), (∀ x ∈ B2, x ∈ L) → (∀ x ∈ L, x ∈ B2) → B2.length ≤ 1000 → M_index_Merge B2 = some (mergeP L.flatten) := by
    intro B2 h1 h2 h3
    have hF : B2.flatten.length ≤ B2.length * 600 := flat_le fun l hl => by have := le_flat (h1 l hl); omega
    have hF2 : B2.length * 600 ≤ 1000 * 600 := Nat.mul_le_mul_right _ h3
    rw [Merge_eq B2 (by omega) (by omega)]
    congr 1
    obtain ⟨q1, q2⟩ := mergeP_facts B2.flatten
    refine rising_ext q1 m1 fun n => ?_
    rw [q2, m2, List.mem_flatten, List.mem_flatten]
    constructor
    · rintro ⟨l, hl, hn⟩; exact ⟨l, h1 l hl, hn⟩
    · rintro ⟨l, hl, hn⟩; exact ⟨l, h2 l hl, hn⟩
  have hall : ∀ x ∈ L, x ∈ B := by
    intro x hx
    obtain ⟨i, hi, rfl⟩ := List.mem_iff_getElem.1 hx
    have := a6 (L.length - 1 - i) (by omega)
    rw [show L.length - 1 - (L.length - 1 - i) = i by omega, List.getD_eq_getElem?_getD, List.getElem?_eq_getElem hi] at this
    exact this
  have hrise : M_thrumref06_Rises (mergeP L.flatten) = some true := by rw [M_thrumref06_Rises, refRises_eq _ (by omega), bindS, m1]
  have tail : ∀ B2 : List (List Int), (∀ x ∈ B2, x ∈ L) → (∀ x ∈ L, x ∈ B2) → B2.length ≤ 1000 → ((((if true = true then some (((mergeP L.flatten).length : Int) == (m.length : Int)) else some false) : Option Bool) >>= fun j10 =>
      ((if j10 = true then (M_thrumref06_Rises (mergeP L.flatten)) >>= fun r11 => some r11 else some false) : Option Bool) >>= fun j12 =>
      ((if j12 = true then (M_index_Merge B2) >>= fun r13 => (M_thrumref06_Equal r13 (mergeP L.flatten)) >>= fun r14 => some r14 else some false) : Option Bool) >>= fun j15 => some j15) : Option Bool) = some true := by
    intro B2 h1 h2 h3
    rw [fin B2 h1 h2 h3, hrise, hkeys]
    simp only [if_true, bindS, beq_self_eq_true, Equal_eq _ _ (show (mergeP L.flatten).length ≤ 4611686018427387904 by omega), decide_true]
  by_cases h0 : (L.length : Int) > 0
  · have hat : at' L 0 ∈ L := by
      match L, h0 with
      | x :: t, _ => rw [drop_at0]; simp
    rw [if_pos h0, if_pos (by omega), if_pos (room_of (by omega) (by simp; omega)), bindS]
    exact tail _ (fun x hx => by
      rcases List.mem_append.1 hx with h | h
      · exact a5 x h
      · simp only [List.mem_singleton] at h; rw [h]; exact hat) (fun x hx => List.mem_append_left _ (hall x hx)) (by simp; omega)
  · rw [if_neg h0, bindS]
    exact tail B a5 hall (by omega)
end Go.Proofs.Ytelobmiooldoaaa.Abs
