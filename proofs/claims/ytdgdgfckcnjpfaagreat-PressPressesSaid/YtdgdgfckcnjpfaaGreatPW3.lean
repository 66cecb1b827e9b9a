/- Plain facts: any vector pressed in any way, by program and document. Conditions: none. -/
import Derived.Test.YtdgdgfckcnjpfaaGreatPW2
namespace Go.Proofs.YtdgdgfckcnjpfaaGreat.Abs
open Go Go.RowKit Go.IntWalk
set_option linter.unusedVariables false
set_option linter.unusedSimpArgs false
set_option linter.unnecessarySimpa false
set_option maxRecDepth 100000

theorem presses_l0 (h : T_api_How) (v : List Int) (d : Int) (r1 : Bool) (r3 : Int × Int × (List Int) × (List Int) × Int × Int × (List Int) × (List Bool) × Int) (N : Nat) (hN : r3.2.2.2.1.length = N) (hl : N ≤ 1000000) : ∀ (j k : Nat) (x : List Int), k + j = N → x.length = N → M_thrumlaw12_PressPresses_l0 h v d r1 r3 (k : Int) x = some ()
  | 0, k, x, e, hx => by rw [M_thrumlaw12_PressPresses_l0, if_neg (by omega)]
  | j + 1, k, x, e, hx => by
    rw [M_thrumlaw12_PressPresses_l0, if_pos (by omega), if_pos (by omega), if_pos (by omega), bindS, i64_s (by omega)]
    exact presses_l0 h v d r1 r3 N hN hl j (k + 1) _ (by omega) (by simpa using hx)
theorem press_V {h : T_api_How} {v : List Int} {seed : Int} {n : List Int} : (pressP h v seed n).1.F_V.length ≤ 4096 := by
  rw [pressP]
  by_cases h4 : 4096 < v.length
  · rw [if_pos h4]; simp [zeroS]
  rw [if_neg h4]
  by_cases hw : wayOk h (v.length : Int)
  · have hw' : ¬ ¬ wayOk h (v.length : Int) := fun x => x hw
    rw [if_neg hw']
    obtain ⟨hd, hw⟩ := hw
    by_cases c0 : h.F_Scheme = 0
    · rw [if_pos c0]; simp only; omega
    rw [if_neg c0]
    by_cases c1 : h.F_Scheme = 1
    · obtain ⟨pk, lk⟩ := Pick_ok h.F_K.toNat v (by omega) (by omega)
      rw [if_pos c1]; simp only [List.length_map]; omega
    rw [if_neg c1]
    split
    · split <;> simp [zeroS]
    · split <;> simp [zeroS]
  · rw [if_pos hw]; simp [zeroS]
theorem round_fits {h : T_api_How} {g left : List Int} {seed : Int} {n : List Int} : Fits (roundP h g left seed n).1 ∧ (roundP h g left seed n).2.1.length ≤ 4096 ∨ Fits (roundP h g left seed n).1 ∧ (roundP h g left seed n).2.1.length ≤ 1000000 := by
  have hJ : I64s (vecP (· + ·) g left).1 := vecP_I64s
  rw [roundP]
  by_cases h1 : (vecP (· + ·) g left).2 ≠ 0
  · rw [if_pos h1]; exact .inl ⟨zeroS_fits, by simp⟩
  rw [if_neg h1]
  by_cases h2 : (pressP h (vecP (· + ·) g left).1 seed n).2 ≠ 0
  · rw [if_pos h2]; exact .inl ⟨zeroS_fits, by simp⟩
  rw [if_neg h2]
  by_cases h3 : (leftP (vecP (· + ·) g left).1 (pressP h (vecP (· + ·) g left).1 seed n).1).2 ≠ 0
  · rw [if_pos h3]; exact .inl ⟨zeroS_fits, by simp⟩
  rw [if_neg h3]
  have ho := vecP_ok (op := (· + ·)) (a := g) (b := left) (by simpa using h1)
  have hle := vecP_len (op := (· + ·)) (a := g) (b := left)
  refine .inl ⟨press_fits hJ, ?_⟩
  simp only
  unfold leftP
  split
  · simp
  · exact Nat.le_trans vecP_len (by omega)
theorem PressPresses_true (h : T_api_How) (g left : List Int) (seed : Int) (n : List Int) (d : Int) (hg : I64s g) (hl : I64s left) (hgl : g.length ≤ 17592186044416) : M_thrumlaw12_PressPresses h g left seed n d = some true := by
  obtain ⟨b, hb1, hb2⟩ := few12_eq n [g, left] (by simp)
  rw [M_thrumlaw12_PressPresses, live12_eq, bindS, if_neg (by simp), hb1, bindS]
  cases b with
  | false => rw [if_pos rfl]
  | true =>
  obtain ⟨f1, _, f3⟩ := hb2 rfl
  have fg := f3 g (by simp)
  have hR := round_fits (h := h) (g := g) (left := left) (seed := seed) (n := n)
  have hRF : Fits (roundP h g left seed n).1 ∧ (roundP h g left seed n).2.1.length ≤ 1000000 := by
    rcases hR with h | h
    · exact ⟨h.1, by omega⟩
    · exact h
  have hP := press_fits (h := h) (v := g) (seed := seed) (n := n) hg
  have hL1 : Lens (pressP h g seed n).1 := ⟨hP.S.L, hP.S.V, hP.S.Lev, hP.S.Neg⟩
  have hL2 : Lens (roundP h g left seed n).1 := ⟨hRF.1.S.L, hRF.1.S.V, hRF.1.S.Lev, hRF.1.S.Neg⟩
  have S1 := SameSent_eq (a := (pressP h g seed n).1) (b := (pressP h g seed n).1) hL1
  have S2 := SameSent_eq (a := (roundP h g left seed n).1) (b := (roundP h g left seed n).1) hL2
  rw [decide_eq_true rfl] at S1 S2
  have hVl : (sentT (pressP h g seed n)).2.2.2.1.length = (pressP h g seed n).1.F_V.length := rfl
  have hpl := presses_l0 h g d true (sentT (pressP h g seed n)) _ hVl (by have := press_V (h := h) (v := g) (seed := seed) (n := n); omega) (pressP h g seed n).1.F_V.length 0 (sentT (pressP h g seed n)).2.2.2.1 (by omega) hVl
  rw [show ((0 : Nat) : Int) = 0 from rfl] at hpl
  rw [if_neg (by simp), if_pos (room8 (by omega)), Press_eq hg (by omega), bindS, r12Press_eq hg (by omega) (by omega), bindS, Round_eq hg hl (by omega), bindS, r12Round_eq hg hl (by omega) (by omega), bindS]
  rw [show (⟨(sentT (pressP h g seed n)).1, (sentT (pressP h g seed n)).2.1, (sentT (pressP h g seed n)).2.2.1, (sentT (pressP h g seed n)).2.2.2.1, (sentT (pressP h g seed n)).2.2.2.2.1, (sentT (pressP h g seed n)).2.2.2.2.2.1, (sentT (pressP h g seed n)).2.2.2.2.2.2.1, (sentT (pressP h g seed n)).2.2.2.2.2.2.2.1⟩ : T_api_Sent) = (pressP h g seed n).1 from rfl, S1, bindS, orB]
  rw [show (⟨(roundT (roundP h g left seed n)).1, (roundT (roundP h g left seed n)).2.1, (roundT (roundP h g left seed n)).2.2.1, (roundT (roundP h g left seed n)).2.2.2.1, (roundT (roundP h g left seed n)).2.2.2.2.1, (roundT (roundP h g left seed n)).2.2.2.2.2.1, (roundT (roundP h g left seed n)).2.2.2.2.2.2.1, (roundT (roundP h g left seed n)).2.2.2.2.2.2.2.1⟩ : T_api_Sent) = (roundP h g left seed n).1 from rfl, S2]
  rw [ref2Same_eq _ _ (by have : (roundT (roundP h g left seed n)).2.2.2.2.2.2.2.2.1 = (roundP h g left seed n).2.1 := rfl; rw [this]; omega)]
  simp only [bindS, orB]
  simp only [decide_true, Bool.not_true, Bool.true_eq_false, decide_false, bne_self_eq_false, Bool.or_false, Bool.or_self, Bool.false_eq_true, if_false]
  rw [hpl, bindS, if_pos trivial, pCheck_eq, bindS, r12Check_eq, bindS, if_pos rfl, ref2Same_eq _ _ (by omega)]
  simp [bindS]
end Go.Proofs.YtdgdgfckcnjpfaaGreat.Abs
