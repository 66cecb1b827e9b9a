/- IndexWrites, plainly: it answers true. Conditions: none but that numbers are of their kinds. -/
import Derived.Test.YtaghpancpfpnhaaP6c
namespace Go.Proofs.Ytaghpancpfpnhaa.Abs
open Go Go.RowKit Go.IntWalk
set_option linter.unusedVariables false

theorem Equal_l0 (a b : List Int) (hl : a.length = b.length) (hb : a.length ≤ 4611686018427387904) : ∀ (t u : List Int) (k : Nat), a.drop k = t → b.drop k = u → M_thrumref06_Equal_l0 a b (k : Int) = some (if t = u then .inr () else .inl false)
  | [], u, k, h1, h2 => by
    have := List.drop_eq_nil_iff.1 h1
    have h3 : u = [] := by rw [← h2]; exact List.drop_eq_nil_of_le (by omega)
    rw [M_thrumref06_Equal_l0, if_neg (drop_end h1), h3]; rfl
  | x :: t, [], k, h1, h2 => by
    have := List.drop_eq_nil_iff.1 h2
    have := (drop_at h1).1
    omega
  | x :: t, y :: u, k, h1, h2 => by
    have g1 := drop_at h1
    have g2 := drop_at h2
    rw [M_thrumref06_Equal_l0, if_pos g1.1, if_pos (by omega), if_pos (by omega), g1.2.1, g2.2.1, i64_s (by omega), Equal_l0 a b hl hb t u (k + 1) g1.2.2 g2.2.2]
    by_cases hxy : x = y
    · subst hxy; simp
    · simp [hxy]

theorem Equal_eq (a b : List Int) (hb : a.length ≤ 4611686018427387904) : M_thrumref06_Equal a b = some (decide (a = b)) := by
  rw [M_thrumref06_Equal]
  by_cases hl : a.length = b.length
  · have := Equal_l0 a b hl hb a b 0 rfl rfl
    rw [show ((0 : Nat) : Int) = 0 from rfl] at this
    rw [if_neg (by omega), this]
    by_cases h : a = b
    · simp [h]
    · simp [h]
  · rw [if_pos (by omega), decide_eq_false (fun h => hl (by rw [h]))]

theorem lebP_small {n : Int} (h : ¬ 127 < n) : lebP n = [IntKind.u8.wrap n] := by rw [lebP, if_neg h]

theorem live_put : putB 9 [1, 2, 5] = [3, 1, 0, 2] := by
  have : checkP 9 [1, 2, 5] = 0 := by decide
  rw [putB, if_pos this]
  have h1 : (IntKind.u64.wrap ([1, 2, 5] : List Int).length :: gaps (-1) [1, 2, 5]) = [3, 1, 0, 2] := by decide
  rw [h1]
  simp only [List.flatMap_cons, List.flatMap_nil]
  rw [lebP_small (by omega), lebP_small (by omega), lebP_small (by omega), lebP_small (by omega)]
  decide

theorem live6_eq : M_thrumlaw06_live = some true := by
  rw [M_thrumlaw06_live, Put_eq 9 [1, 2, 5] (by decide), bindS, live_put, iGet_eq 9 [3, 1, 0, 2] 0 (by decide) (by simp [U8s]) (by decide), bindS, Same_eq _ _ (by simp [U8s]) (by simp [U8s]), bindS]
  have h1 : checkP 9 [1, 2, 5] = 0 := by decide
  have h2 : igetP 9 [3, 1, 0, 2] 0 = ([1, 2, 5], 4, 0) := by decide
  rw [h1, h2, Equal_eq _ _ (by decide)]
  rfl

theorem few1_eq (l : List Int) (hl : l.length ≤ 4611686018427387904) : M_thrumlaw06_few [l] = some (decide (l.length ≤ 600)) := by
  rw [M_thrumlaw06_few, M_thrumlaw06_few_l0, if_pos (by simp), if_pos (by simp), M_thrumlaw06_few_l0, if_neg (by rw [i64_in _ (by omega)]; simp), bindS, andB, drop_at0]
  have : IntKind.i64.wrap (0 + (l.length : Int)) = l.length := by rw [i64_in _ (by omega)]; omega
  rw [this]
  by_cases h : l.length ≤ 600
  · simp [h]; omega
  · simp [h]; omega

theorem code_eq : ∀ (m : Nat) (n : Int), n.toNat ≤ m → 0 ≤ n → n ≤ 18446744073709551615 → M_thrumref03_code n = some (lebP n) := by
  intro m
  induction m with
  | zero =>
    intro n h h0 h1
    rw [M_thrumref03_code, if_pos (by omega), lebP_small (by omega)]
  | succ m ih =>
    intro n h h0 h1
    rw [M_thrumref03_code]
    by_cases hn : n < 128
    · rw [if_pos hn, lebP_small (by omega)]
    · have e1 : IntKind.u64.wrap (Int.tdiv n 128) = n / 128 := by
        rw [Int.tdiv_eq_ediv_of_nonneg h0, u64_in _ (by omega)]
      have e2 : IntKind.u8.wrap (IntKind.u8.wrap (Int.tmod n 128) + 128) = bOr .u8 (IntKind.u8.wrap n) 128 := by
        rw [rem_in _ _ h0, IntKind.wrap_u8 (n % 128), IntKind.wrap_u8 n]
        have h : ∀ i : Fin 256, IntKind.u8.wrap ((((i.val : Nat) : Int) % 128) + 128) = bOr .u8 ((i.val : Nat) : Int) 128 := by decide +kernel
        have := h ⟨(n % 256).toNat, by omega⟩
        simp only [Int.toNat_of_nonneg (show 0 ≤ n % 256 by omega)] at this
        rw [← this]
        congr 2
        omega
      have hlen := lebP_le (n / 128) (by omega)
      rw [if_neg hn, e1, ih (n / 128) (by omega) (by omega) (by omega), bindS, if_pos (room1 (by simp; omega)), e2]
      conv => rhs; rw [lebP, if_pos (by omega), shr7]
      rfl

theorem refPut_l0 (ns : List Int) (hn : ns.length ≤ 4611686018427387904) (hu : ∀ n ∈ ns, 0 ≤ n ∧ n ≤ 18446744073709551615) : ∀ (t : List Int) (k : Nat) (b : List Int), ns.drop k = t → b.length + (t.flatMap lebP).length ≤ 140737488355328 → M_thrumref03_Put_l0 ns (k : Int) b = some (b ++ t.flatMap lebP)
  | [], k, b, h, hb => by
    rw [M_thrumref03_Put_l0, if_neg (drop_end h)]; simp
  | x :: t, k, b, h, hb => by
    have h1 := drop_at h
    have hx := hu x (List.mem_of_mem_drop (by rw [h]; simp))
    simp only [List.flatMap_cons, List.length_append] at hb
    rw [M_thrumref03_Put_l0, if_pos h1.1, if_pos (by omega), h1.2.1, code_eq _ x (Nat.le_refl _) hx.1 hx.2, bindS, if_pos (room1 (by simp; omega)), i64_s (by omega), refPut_l0 ns hn hu t (k + 1) _ h1.2.2 (by simp only [List.length_append]; omega)]
    simp

theorem refPut_eq (b ns : List Int) (hn : ns.length ≤ 4611686018427387904) (hu : ∀ n ∈ ns, 0 ≤ n ∧ n ≤ 18446744073709551615) (hb : b.length + (ns.flatMap lebP).length ≤ 140737488355328) : M_thrumref03_Put b ns = some (b ++ ns.flatMap lebP) := by
  have h1 := refPut_l0 ns hn hu ns 0 b rfl hb
  rw [show ((0 : Nat) : Int) = 0 from rfl] at h1
  rw [M_thrumref03_Put, if_pos (room1 (by omega)), h1, bindS]

theorem refPut6_l0 (l : List Int) (hl : l.length ≤ 1099511627776) : ∀ (t : List Int) (k : Nat) (last : Int) (b : List Int), l.drop k = t → b.length + 10 * t.length ≤ 140737488355328 → M_thrumref06_Put_l0 l (k : Int) last b = some (b ++ (gaps last t).flatMap lebP)
  | [], k, last, b, h, hb => by
    rw [M_thrumref06_Put_l0, if_neg (drop_end h)]; simp [gaps]
  | x :: t, k, last, b, h, hb => by
    have h1 := drop_at h
    simp only [List.length_cons] at hb
    have h2 := lebP_le (IntKind.u64.wrap (IntKind.i64.wrap (IntKind.i64.wrap (x - last) - 1))) (u64_ge _).2
    rw [M_thrumref06_Put_l0, if_pos h1.1, if_pos (by omega), h1.2.1, refPut_eq b _ (by simp) (by intro n hn; simp only [List.mem_singleton] at hn; subst hn; exact u64_ge _) (by simp; omega), bindS, i64_s (by omega), refPut6_l0 l hl t (k + 1) x _ h1.2.2 (by simp; omega)]
    simp [gaps]

theorem refPut6_eq (dim : Int) (l : List Int) (hl : l.length ≤ 1099511627776) : M_thrumref06_Put dim l = some (putB dim l, checkP dim l) := by
  rw [M_thrumref06_Put, refCheck_eq dim l (by omega), bindS]
  by_cases h : checkP dim l = 0
  · have h2 := lebP_le (IntKind.u64.wrap (l.length : Int)) (u64_ge _).2
    have h1 := refPut6_l0 l hl l 0 (-1) (lebP (IntKind.u64.wrap (l.length : Int))) rfl (by omega)
    rw [show ((0 : Nat) : Int) = 0 from rfl] at h1
    rw [if_neg (by simp [h]), refPut_eq [] _ (by simp) (by intro n hn; simp only [List.mem_singleton] at hn; subst hn; exact u64_ge _) (by simp; omega), bindS]
    simp only [List.flatMap_cons, List.flatMap_nil, List.append_nil, List.nil_append]
    rw [h1, bindS, putB, if_pos h, h]
    simp
  · rw [if_pos h, putB, if_neg h]

theorem lebP_u8 : ∀ (k : Nat) (n : Int), n.toNat ≤ k → U8s (lebP n) := by
  intro k
  induction k with
  | zero =>
    intro n h x hx
    rw [lebP_small (by omega), List.mem_singleton] at hx; subst hx
    exact u8_ge _
  | succ k ih =>
    intro n h x hx
    rw [lebP] at hx
    split at hx
    · rcases List.mem_cons.1 hx with rfl | hx
      · exact u8_ge _
      · exact ih _ (by rw [shr7]; omega) x hx
    · simp only [List.mem_singleton] at hx; subst hx
      exact u8_ge _

theorem putB_u8 (dim : Int) (l : List Int) : U8s (putB dim l) := by
  unfold putB
  split
  · intro x hx
    obtain ⟨n, _, hn⟩ := List.mem_flatMap.1 hx
    exact lebP_u8 _ n (Nat.le_refl _) x hn
  · intro x hx; simp at hx

theorem iget_len (dim : Int) (b : List Int) : ∀ (m : Nat) (at0 last : Int) (acc : List Int), (iget dim b m at0 last acc).1.length ≤ acc.length + m
  | 0, _, _, _ => by simp [iget]
  | m + 1, at0, last, acc => by
    rw [iget]
    split
    · simp
    · split
      · simp
      · have := iget_len dim b m (getP b at0).2.1 (last + 1 + (getP b at0).1) (acc ++ [last + 1 + (getP b at0).1])
        simp only [List.length_append, List.length_cons, List.length_nil] at this
        omega

theorem igetP_len (dim : Int) (b : List Int) (at0 : Int) : (igetP dim b at0).1.length ≤ 4096 := by
  unfold igetP
  split
  · simp
  · rename_i hm
    have hm' : meas dim = true := by simpa using hm
    simp only [meas, Bool.and_eq_true, decide_eq_true_eq] at hm'
    split
    · simp
    · split
      · simp
      · have := iget_len dim b (getP b at0).1.toNat (getP b at0).2.1 (-1) []
        simp only [List.length_nil] at this
        omega

theorem IndexWrites_true (dim : Int) (l b : List Int) (at0 : Int) (hl : l.length ≤ 140737488355328) (hb : b.length ≤ 140737488355328) (hu : U8s b) (hat : at0 ≤ 9223372036854775807) : M_thrumlaw06_IndexWrites dim l b at0 = some true := by
  rw [M_thrumlaw06_IndexWrites, live6_eq, bindS, if_neg (by simp), few1_eq l (by omega), bindS, orB]
  by_cases h : decide (decide (l.length ≤ 600) = false) || decide ((b.length : Int) > 2000)
  · rw [if_pos h]
  · have h' : l.length ≤ 600 ∧ b.length ≤ 2000 := by
      simp at h; omega
    rw [if_neg h, Put_eq dim l (by omega), bindS, refPut6_eq dim l (by omega), bindS, iGet_eq dim b at0 (by omega) hu hat, bindS, refGet6_eq dim b at0 (by omega) hu hat, bindS]
    simp only [if_pos, Same_eq _ _ (putB_u8 dim l) (putB_u8 dim l), bindS, decide_true, beq_self_eq_true, Equal_eq _ _ (show (igetP dim b at0).1.length ≤ 4611686018427387904 by have := igetP_len dim b at0; omega), Check_eq dim l (show l.length ≤ 4611686018427387904 by omega), refCheck_eq dim l (show l.length ≤ 4611686018427387904 by omega)]
end Go.Proofs.Ytaghpancpfpnhaa.Abs
