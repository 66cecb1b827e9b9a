/- Plain facts: what the document's planes and signs are. Conditions: none. -/
import Derived.Test.YtelobmiooldoaaaGreatPR1
namespace Go.Proofs.YtelobmiooldoaaaGreat.Abs
open Go Go.RowKit Go.IntWalk Crc
set_option linter.unusedVariables false
set_option linter.unnecessarySimpa false
set_option linter.unusedSimpArgs false
set_option linter.unusedSectionVars false
set_option maxRecDepth 100000

theorem wid_half {n : Nat} (h : 0 < n) : wid n = wid (n / 2) + 1 := by
  by_cases h2 : n = 1
  · subst h2; rfl
  · have := wid_shift (n := n) (k := 1) (by omega)
    simpa using this
theorem wid_zero {n : Nat} (h : wid n = 0) : n = 0 := by
  rcases Nat.eq_zero_or_pos n with h0 | h0
  · exact h0
  · rw [wid_half h0] at h; omega
theorem wid_64 {n : Nat} (h : n < 18446744073709551616) : wid n ≤ 64 := wid_le.2 (by simpa using h)
theorem refWidth_l0 : ∀ (m n k : Nat), wid n = m → n < 18446744073709551616 → k + m ≤ 1000 → M_thrumref05_Width_l0 (k : Int) (n : Int) = some ((k + m : Nat) : Int)
  | 0, n, k, h, hn, hk => by
    have := wid_zero h
    subst this
    rw [M_thrumref05_Width_l0, if_neg (by simp)]; rfl
  | m + 1, n, k, h, hn, hk => by
    have h0 : 0 < n := by
      rcases Nat.eq_zero_or_pos n with h0 | h0
      · subst h0; have h9 : wid 0 = 0 := rfl
        omega
      · exact h0
    rw [wid_half h0] at h
    rw [M_thrumref05_Width_l0, if_pos (by omega), Int.tdiv_eq_ediv_of_nonneg (by omega), u64_in _ (by omega), i64_s (by omega), show ((n : Int) / 2) = ((n / 2 : Nat) : Int) by omega, refWidth_l0 m (n / 2) (k + 1) (by omega) (by omega) (by omega)]
    congr 1; omega
theorem refWidth_eq {n : Int} (h : 0 ≤ n ∧ n ≤ 18446744073709551615) : M_thrumref05_Width n = some ((wid n.toNat : Nat) : Int) := by
  have h64 : wid n.toNat ≤ 64 := wid_64 (by omega)
  have := refWidth_l0 (wid n.toNat) n.toNat 0 rfl (by omega) (by omega)
  rw [Int.toNat_of_nonneg h.1, show ((0 : Nat) : Int) = 0 from rfl] at this
  rw [M_thrumref05_Width, this, bindS, Nat.zero_add]

theorem refBytes_eq {w d : Nat} (hw : w ≤ 32) (hd : d ≤ 4096) : M_thrumref05_Bytes (w : Int) (d : Int) = some (((bytesOf w d : Nat) : Int), 0) := by
  have h1 : w * d ≤ 32 * 4096 := Nat.mul_le_mul hw hd
  have h2 : (w : Int) * (d : Int) = ((w * d : Nat) : Int) := by push_cast; rfl
  rw [M_thrumref05_Bytes, orB, orB, if_neg (by simp; omega), if_neg (by omega), h2]
  unfold bytesOf
  generalize w * d = q at h1 ⊢
  rw [i64_in (q : Int) (by omega), i64_in ((q : Int) + 7) (by omega), Int.tdiv_eq_ediv_of_nonneg (by omega), i64_in _ (by omega)]
  refine congrArg some (Prod.ext ?_ rfl)
  simp only; omega

end Go.Proofs.YtelobmiooldoaaaGreat.Abs
