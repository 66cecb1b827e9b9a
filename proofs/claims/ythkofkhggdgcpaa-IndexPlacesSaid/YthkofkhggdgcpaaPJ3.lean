/- Plain facts on places that are left. Conditions: none. -/
import Derived.Test.YthkofkhggdgcpaaPJ2
namespace Go.Proofs.Ythkofkhggdgcpaa.Abs
open Go Go.RowKit Go.IntWalk
set_option linter.unusedVariables false
set_option linter.unusedSimpArgs false
set_option maxRecDepth 100000

theorem Left_bad (dim : Int) (l : List Int) (hl : l.length ≤ 4611686018427387904) (h : checkP dim l ≠ 0) : M_index_Left dim l = some ([], checkP dim l) := by
  rw [M_index_Left, Check_eq dim l hl, bindS, if_pos h]

/-- All places. -/
theorem all_at (m : Nat) : ∀ k, k < m → at' (leftF m 0 []) (k : Int) = k := by
  have h : ∀ (m : Nat) (x : Int), leftF m x [] = (List.range m).map fun (i : Nat) => x + (i : Int) := by
    intro m
    induction m with
    | zero => intro x; simp [leftF]
    | succ m ih =>
      intro x
      rw [List.range_succ_eq_map, List.map_cons, List.map_map, leftF, ih]
      simp only [Int.natCast_zero, Int.add_zero, List.cons.injEq, true_and]
      apply List.map_congr_left
      intro i _
      simp only [Function.comp_apply, Int.natCast_succ]; omega
  intro k hk
  rw [h, at'_nat]
  simp [List.getD_eq_getElem?_getD, hk]

theorem IL_l0 (r1 : Bool) (l : List Int) (hl : l.length ≤ 4611686018427387904) (h : ∀ k : Nat, k < l.length → at' l (k : Int) = (k : Int)) : ∀ (j k : Nat), k + j = l.length → M_thrumlaw06_IndexLeft_l0 r1 l (k : Int) = some (.inr ())
  | 0, k, hk => by rw [M_thrumlaw06_IndexLeft_l0, if_neg (by omega)]
  | j + 1, k, hk => by
    rw [M_thrumlaw06_IndexLeft_l0, if_pos (by omega), if_pos ⟨by omega, by omega⟩, h k (by omega), if_neg (by simp), i64_s (by omega)]
    exact IL_l0 r1 l hl h j (k + 1) (by omega)
theorem IL_l1 (r1 : Bool) (l : List Int) (hl : l.length ≤ 4611686018427387904) (h : ∀ k : Nat, k < l.length → at' l (k : Int) = (k : Int)) : ∀ (j k : Nat), k + j = l.length → M_thrumlaw06_IndexLeft_l1 r1 l (k : Int) = some (.inr ())
  | 0, k, hk => by rw [M_thrumlaw06_IndexLeft_l1, if_neg (by omega)]
  | j + 1, k, hk => by
    rw [M_thrumlaw06_IndexLeft_l1, if_pos (by omega), if_pos ⟨by omega, by omega⟩, h k (by omega), if_neg (by simp), i64_s (by omega)]
    exact IL_l1 r1 l hl h j (k + 1) (by omega)

theorem IndexLeft_true (dim : Int) (l : List Int) (hl : l.length ≤ 140737488355328) : M_thrumlaw06_IndexLeft dim l = some true := by
  rw [M_thrumlaw06_IndexLeft, live6_eq, bindS, if_neg (by simp), few1_eq l (by omega), bindS]
  by_cases h6 : l.length ≤ 600
  rotate_left
  · rw [if_pos (by simp; omega)]
  rw [if_neg (by simp; omega)]
  by_cases hc : checkP dim l = 0
  rotate_left
  · have hb := Left_bad dim l (by omega) hc
    rw [hb]
    simp only [bindS, ne_eq, hc, not_false_eq_true, if_true]
    split
    · split
      · rfl
      · rfl
    · rfl
  obtain ⟨hm, hr, hin⟩ := placed_iff.1 hc
  have hd : 0 < dim ∧ dim ≤ 4096 := by simpa [meas] using hm
  have key : ∀ (Lp : Bool → List Int → Int → Option (Sum Bool Unit)), (∀ (r1 : Bool) (l : List Int), l.length ≤ 4611686018427387904 → (∀ k : Nat, k < l.length → at' l (k : Int) = (k : Int)) → Lp r1 l 0 = some (.inr ())) →
      ((M_index_Left dim l) >>= fun r12 =>
        if r12.2 ≠ 0 then
          ((if true = true then some ((r12.1.length : Int) == 0) else some false) : Option Bool) >>= fun j13 => some j13
        else
          (M_index_Left dim r12.1) >>= fun r14 =>
          (M_index_Merge [r12.1, l]) >>= fun r15 =>
          ((if r14.2 ≠ 0 then some true else (M_thrumref06_Equal r14.1 l) >>= fun r16 => some (!r16)) : Option Bool) >>= fun j17 =>
          ((if j17 = true then some true else some ((r15.length : Int) != dim)) : Option Bool) >>= fun j18 =>
          ((if j18 = true then some true else some ((IntKind.i64.wrap ((r12.1.length : Int) + (l.length : Int))) != dim)) : Option Bool) >>= fun j19 =>
          if j19 = true then some false
          else (Lp true r15 0) >>= fun e => match e with
            | .inl r => some r
            | .inr j20 => some true) = some true := by
    intro Lp hLp
    have e1 := Left_eq dim l (by omega) hc
    generalize ha : leftF dim.toNat 0 l = a at e1
    have hai : ∀ n, n ∈ a ↔ (0 ≤ n ∧ n < dim ∧ n ∉ l) := by
      intro n
      rw [← ha, leftF_mem dim.toNat 0 l hr (fun n hn => (hin n hn).1)]
      rw [show (0 : Int) + (dim.toNat : Int) = dim by omega]
    have har : rising a = true := by rw [← ha]; exact leftF_rising dim.toNat 0 l hr (fun n hn => (hin n hn).1)
    have hal : a.length + l.length = dim.toNat := by
      rw [← ha]; exact leftF_len dim.toNat 0 l hr (fun n hn => ⟨(hin n hn).1, by have := (hin n hn).2; omega⟩)
    have hca : checkP dim a = 0 := placed_iff.2 ⟨hm, har, fun n hn => ⟨((hai n).1 hn).1, ((hai n).1 hn).2.1⟩⟩
    have e2 := Left_eq dim a (by omega) hca
    have hb : leftF dim.toNat 0 a = l := by
      refine rising_ext (leftF_rising dim.toNat 0 a har (fun n hn => ((hai n).1 hn).1)) hr fun n => ?_
      rw [leftF_mem dim.toNat 0 a har (fun n hn => ((hai n).1 hn).1), show (0 : Int) + (dim.toNat : Int) = dim by omega]
      constructor
      · rintro ⟨h1, h2, h3⟩
        by_cases hn : n ∈ l
        · exact hn
        · exact absurd ((hai n).2 ⟨h1, h2, hn⟩) h3
      · intro hn
        exact ⟨(hin n hn).1, (hin n hn).2, fun h => ((hai n).1 h).2.2 hn⟩
    have e3 := Merge_eq [a, l] (by simp) (by simp; omega)
    have hmm : mergeP [a, l].flatten = leftF dim.toNat 0 [] := by
      obtain ⟨g1, g2⟩ := mergeP_facts [a, l].flatten
      refine rising_ext g1 (leftF_rising dim.toNat 0 [] rfl (by simp)) fun n => ?_
      rw [g2, leftF_mem dim.toNat 0 [] rfl (by simp), show (0 : Int) + (dim.toNat : Int) = dim by omega]
      simp only [List.flatten_cons, List.flatten_nil, List.append_nil, List.mem_append, hai, List.not_mem_nil, not_false_eq_true, and_true]
      constructor
      · rintro (h | h)
        · exact ⟨h.1, h.2.1⟩
        · exact hin n h
      · intro h
        by_cases hn : n ∈ l
        · exact .inr hn
        · exact .inl ⟨h.1, h.2, hn⟩
    have hlen : (leftF dim.toNat 0 []).length = dim.toNat := by
      have := leftF_len dim.toNat 0 [] rfl (by simp)
      simpa using this
    rw [e1, bindS, if_neg (by simp), e2, bindS, e3, bindS, hmm, hb]
    simp only
    rw [if_neg (by simp), Equal_eq l l (by omega), bindS, bindS]
    simp only [decide_true, Bool.not_true, Bool.false_eq_true, if_false]
    rw [bindS, hlen, i64_in _ (by omega)]
    rw [show ((dim.toNat : Int) != dim) = false by simp; omega, show ((a.length : Int) + (l.length : Int) != dim) = false by simp; omega]
    simp only [Bool.false_eq_true, if_false, bindS]
    rw [hLp true _ (by rw [hlen]; omega) (fun k hk => all_at _ k (by rw [hlen] at hk; exact hk))]
    rfl
  have k0 := key M_thrumlaw06_IndexLeft_l0 fun r1 l h1 h2 => IL_l0 r1 l h1 h2 l.length 0 (by omega)
  have k1 := key M_thrumlaw06_IndexLeft_l1 fun r1 l h1 h2 => IL_l1 r1 l h1 h2 l.length 0 (by omega)
  split
  · split
    · rfl
    · exact k0
  · exact k1
end Go.Proofs.Ythkofkhggdgcpaa.Abs
